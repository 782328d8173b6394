/- How a conf is read. -/
import Derived.Test.YthaieabhlodajaaOpenB
import Derived.Test.YthaieabhlodajaaLayP
import Derived.Test.YthaieabhlodajaaRows
namespace Go.Proofs.Ythaieabhlodajaa
open Go.ChangeShapes Go.WideShapes Go.ChangeAt Go.RowKit Go.Joins Go.Deep
section
variable {H : Type} {enc : TypeId × Value → H} {W : World} {base : Nat} {v : Value} {d : DataW H} {p : List MemPlace}
theorem arr9 {α : Type} {l : List α} {a0 a1 a2 a3 a4 a5 a6 a7 a8 : α} (hl : l.length = 9) (h0 : l[0]? = some a0) (h1 : l[1]? = some a1) (h2 : l[2]? = some a2) (h3 : l[3]? = some a3) (h4 : l[4]? = some a4) (h5 : l[5]? = some a5) (h6 : l[6]? = some a6) (h7 : l[7]? = some a7) (h8 : l[8]? = some a8) : l = [a0, a1, a2, a3, a4, a5, a6, a7, a8] := by
  match l, hl with
  | [x0, x1, x2, x3, x4, x5, x6, x7, x8], _ => simp at h0 h1 h2 h3 h4 h5 h6 h7 h8; simp [h0, h1, h2, h3, h4, h5, h6, h7, h8]
theorem o_cf (hv : Value.okWide Try.prog W .any base 23 v) (h : DataW.Trod enc Try.prog W 0 (fun _ => true) true 23 v d p) : ∃ c : Cf, v = cfV c ∧ c.nodes ≤ 9223372036854775807 := by
  obtain ⟨cs, rfl, hsz⟩ := okWide_struct Try.underlying23 hv
  obtain ⟨fuel, hf⟩ := h
  have hc : Try.prog.cellsOf 23 = 9 := by kernel_rfl
  have hf' : DataW.trod enc Try.prog W 0 (fun _ => true) true fuel 23 cs.toList = some (d, p) := by simpa [Value.cells] using hf
  obtain ⟨x0, h0, w0⟩ := fld_int Try.underlying23 (by kernel_rfl) (by kernel_rfl) hf' 0 _ rfl Try.underlying3
  obtain ⟨x1, h1, w1⟩ := fld_int Try.underlying23 (by kernel_rfl) (by kernel_rfl) hf' 1 _ rfl Try.underlying3
  obtain ⟨x2, h2, w2⟩ := fld_int Try.underlying23 (by kernel_rfl) (by kernel_rfl) hf' 2 _ rfl Try.underlying3
  obtain ⟨x3, h3, w3⟩ := fld_int Try.underlying23 (by kernel_rfl) (by kernel_rfl) hf' 3 _ rfl Try.underlying3
  obtain ⟨x4, h4, w4⟩ := fld_int Try.underlying23 (by kernel_rfl) (by kernel_rfl) hf' 4 _ rfl Try.underlying3
  obtain ⟨x5, h5, w5⟩ := fld_int Try.underlying23 (by kernel_rfl) (by kernel_rfl) hf' 5 _ rfl Try.underlying3
  obtain ⟨x6, h6, w6⟩ := fld_int Try.underlying23 (by kernel_rfl) (by kernel_rfl) hf' 6 _ rfl Try.underlying3
  obtain ⟨x7, h7, w7⟩ := fld_int Try.underlying23 (by kernel_rfl) (by kernel_rfl) hf' 7 _ rfl Try.underlying3
  obtain ⟨x8, h8, w8⟩ := fld_int Try.underlying23 (by kernel_rfl) (by kernel_rfl) hf' 8 _ rfl Try.underlying3
  refine ⟨⟨x0, x1, x2, x3, x4, x5, x6, x7, x8⟩, ?_, (bounds_i64 w1).2⟩
  rw [← Array.toArray_toList (xs := cs), arr9 (by simp [hsz, hc]) h0 h1 h2 h3 h4 h5 h6 h7 h8]
end
end Go.Proofs.Ythaieabhlodajaa
