/- How an array of three slices of bytes is read. -/
import Derived.Test.YtcjaomiihajjbaaOpenC
import Derived.Test.YtcjaomiihajjbaaOpenP
namespace Go.Proofs.Ytcjaomiihajjbaa
open Go.ChangeShapes Go.WideShapes Go.ChangeAt Go.RowKit Go.Joins Go.Deep
section
variable {H : Type} {enc : TypeId × Value → H} {W : World} {base : Nat} {v : Value} {d : DataW H} {p : List MemPlace}
theorem o_u8s3s (hv : Value.okWide Try.prog W .any base 56 v) (h : DataW.Trod enc Try.prog W 0 (fun _ => true) true 56 v d p) :
    ∃ (A0 A1 A2 : Option Addr) (n0 n1 n2 c0 c1 c2 : Nat) (L0 L1 L2 : List Nat), v = .agg #[.slice A0 n0 c0, .slice A1 n1 c1, .slice A2 n2 c2] ∧ L0.length = n0 ∧ L1.length = n1 ∧ L2.length = n2 ∧ SlU8 W W.heap.size A0 L0 ∧ SlU8 W W.heap.size A1 L1 ∧ SlU8 W W.heap.size A2 L2 := by
  obtain ⟨cs, rfl, hsz⟩ := okWide_array Try.underlying56 hv
  obtain ⟨fuel, hf⟩ := h
  have hct : Try.prog.cellsOf 56 = 3 := by kernel_rfl
  have hc : Try.prog.cellsOf 23 = 1 := by kernel_rfl
  have hl : cs.toList.length = 3 := by simp [hsz, hct]
  have hf' : DataW.trod enc Try.prog W 0 (fun _ => true) true fuel 56 cs.toList = some (d, p) := by simpa [Value.cells] using hf
  have each : ∀ i, i < 3 → ∃ (A : Option Addr) (n c : Nat) (L : List Nat), cs.toList[i]? = some (.slice A n c) ∧ L.length = n ∧ SlU8 W W.heap.size A L := by
    intro i hi
    obtain ⟨xs, m, _, _, _, hx, hg⟩ := DataW.trod_array Try.underlying56 hf'
    have h1 := hg i hi
    rw [hc, Nat.mul_one, List.drop_eq_getElem_cons (by omega), List.take_succ_cons, List.take_zero, List.getElem?_eq_getElem (by omega)] at h1
    obtain ⟨A, n, c, e⟩ := slice_shape Try.underlying23 h1
    rw [e] at h1
    obtain ⟨L, q1, q2⟩ := u8s_of_trod h1
    exact ⟨A, n, c, L, by rw [List.getElem?_eq_getElem (by omega), e], q1, q2⟩
  obtain ⟨A0, n0, c0, L0, a0, b0, s0⟩ := each 0 (by omega)
  obtain ⟨A1, n1, c1, L1, a1, b1, s1⟩ := each 1 (by omega)
  obtain ⟨A2, n2, c2, L2, a2, b2, s2⟩ := each 2 (by omega)
  refine ⟨A0, A1, A2, n0, n1, n2, c0, c1, c2, L0, L1, L2, ?_, b0, b1, b2, s0, s1, s2⟩
  rw [← Array.toArray_toList (xs := cs), arr3 hl a0 a1 a2]
end
end Go.Proofs.Ytcjaomiihajjbaa
