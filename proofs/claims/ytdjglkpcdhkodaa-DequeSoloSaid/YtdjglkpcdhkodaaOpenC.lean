/- How small arrays of bytes are read. -/
import Derived.Test.YtdjglkpcdhkodaaOpen
namespace Go.Proofs.Ytdjglkpcdhkodaa
open Go.ChangeShapes Go.WideShapes Go.ChangeAt Go.RowKit Go.Joins
section
variable {H : Type} {enc : TypeId × Value → H} {P : Program} {W : World} {base : Nat} {v : Value} {d : DataW H} {p : List MemPlace} {t e : TypeId}
theorem okWide_array {n : Nat} (ht : P.underlying t = some (.array n e)) (h : Value.okWide P W .any base t v) : ∃ cs, v = .agg cs ∧ cs.size = P.cellsOf t := by
  simp only [Value.okWide, ht] at h
  obtain ⟨cs, h1, h2, _⟩ := h
  exact ⟨cs, h1, h2⟩
/-- Element i of an array of ints. -/
theorem arr_int {n : Nat} {k : IntKind} {fuel : Nat} {cs : List Value} {x : DataW H × List MemPlace} (ht : P.underlying t = some (.array n e)) (he : P.underlying e = some (.int k)) (hc : P.cellsOf e = 1) (hl : cs.length = n)
    (h : DataW.trod enc P W 0 (fun _ => true) true fuel t cs = some x) (i : Nat) (hi : i < n) : ∃ z, cs[i]? = some (.int k z) ∧ (Lit.int k z).wf = true := by
  obtain ⟨xs, m, _, _, _, hx, hg⟩ := DataW.trod_array ht h
  have h1 := hg i hi
  rw [hc, Nat.mul_one, List.drop_eq_getElem_cons (by omega), List.take_succ_cons, List.take_zero, List.getElem?_eq_getElem (by omega)] at h1
  obtain ⟨z, hz, _, hw⟩ := DataW.trod_int he h1
  simp at hz
  exact ⟨z, by rw [List.getElem?_eq_getElem (by omega), hz], hw⟩
theorem o_u8s2 (ht : P.underlying t = some (.array 2 e)) (he : P.underlying e = some (.int .u8)) (hc : P.cellsOf e = 1) (hct : P.cellsOf t = 2) (hv : Value.okWide P W .any base t v) (h : DataW.Trod enc P W 0 (fun _ => true) true t v d p) :
    ∃ a b : Int, v = .agg #[.int .u8 a, .int .u8 b] ∧ 0 ≤ a ∧ a < 256 ∧ 0 ≤ b ∧ b < 256 := by
  obtain ⟨cs, rfl, hsz⟩ := okWide_array ht hv
  obtain ⟨fuel, hf⟩ := h
  have hl : cs.toList.length = 2 := by simp [hsz, hct]
  have hf' : DataW.trod enc P W 0 (fun _ => true) true fuel t cs.toList = some (d, p) := by simpa [Value.cells] using hf
  obtain ⟨a, h0, w0⟩ := arr_int ht he hc hl hf' 0 (by omega)
  obtain ⟨b, h1, w1⟩ := arr_int ht he hc hl hf' 1 (by omega)
  have c0 := bounds_u8 w0
  have c1 := bounds_u8 w1
  refine ⟨a, b, ?_, by omega, by omega, by omega, by omega⟩
  have : cs.toList = [.int .u8 a, .int .u8 b] := by
    match hq : cs.toList, hl with
    | [x, y], _ => rw [hq] at h0 h1; simp at h0 h1; simp [h0, h1]
  rw [← Array.toArray_toList (xs := cs), this]
theorem o_u8s3 (ht : P.underlying t = some (.array 3 e)) (he : P.underlying e = some (.int .u8)) (hc : P.cellsOf e = 1) (hct : P.cellsOf t = 3) (hv : Value.okWide P W .any base t v) (h : DataW.Trod enc P W 0 (fun _ => true) true t v d p) :
    ∃ a b c : Int, v = .agg #[.int .u8 a, .int .u8 b, .int .u8 c] ∧ 0 ≤ a ∧ a < 256 ∧ 0 ≤ b ∧ b < 256 ∧ 0 ≤ c ∧ c < 256 := by
  obtain ⟨cs, rfl, hsz⟩ := okWide_array ht hv
  obtain ⟨fuel, hf⟩ := h
  have hl : cs.toList.length = 3 := by simp [hsz, hct]
  have hf' : DataW.trod enc P W 0 (fun _ => true) true fuel t cs.toList = some (d, p) := by simpa [Value.cells] using hf
  obtain ⟨a, h0, w0⟩ := arr_int ht he hc hl hf' 0 (by omega)
  obtain ⟨b, h1, w1⟩ := arr_int ht he hc hl hf' 1 (by omega)
  obtain ⟨c, h2, w2⟩ := arr_int ht he hc hl hf' 2 (by omega)
  have c0 := bounds_u8 w0
  have c1 := bounds_u8 w1
  have c2 := bounds_u8 w2
  refine ⟨a, b, c, ?_, by omega, by omega, by omega, by omega, by omega, by omega⟩
  have : cs.toList = [.int .u8 a, .int .u8 b, .int .u8 c] := by
    match hq : cs.toList, hl with
    | [x, y, z], _ => rw [hq] at h0 h1 h2; simp at h0 h1 h2; simp [h0, h1, h2]
  rw [← Array.toArray_toList (xs := cs), this]
end
end Go.Proofs.Ytdjglkpcdhkodaa
