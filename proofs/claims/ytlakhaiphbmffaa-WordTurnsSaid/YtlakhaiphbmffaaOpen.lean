/- How the arguments are read. -/
import Derived.Test.YtlakhaiphbmffaaRows
import Derived.Test.YtlakhaiphbmffaaW1
import Derived.WalkKit
import Derived.ProofKit
import Derived.OpenShut
import Derived.Lib.SmallJoins
namespace Go.Proofs.Ytlakhaiphbmffaa
open Go.ChangeShapes Go.WideShapes Go.ChangeAt Go.RowKit Go.Joins
section
variable {H : Type} {enc : TypeId × Value → H} {W : World} {base : Nat} {v : Value} {d : DataW H} {p : List MemPlace}
theorem o_int (hv : Value.okWide Try.prog W .any base 3 v) (h : DataW.Trod enc Try.prog W 0 (fun _ => true) true 3 v d p) : ∃ n : Int, v = .int .i64 n ∧ -9223372036854775808 ≤ n ∧ n ≤ 9223372036854775807 := by
  obtain ⟨a, rfl, rfl, rfl, wa⟩ := open_int Try.underlying3 hv h
  exact ⟨a, rfl, bounds_i64 wa⟩
theorem o_u16 (hv : Value.okWide Try.prog W .any base 33 v) (h : DataW.Trod enc Try.prog W 0 (fun _ => true) true 33 v d p) : ∃ n : Int, v = .int .u16 n ∧ 0 ≤ n ∧ n < 65536 := by
  obtain ⟨a, rfl, rfl, rfl, wa⟩ := open_int Try.underlying33 hv h
  have := bounds_u16 wa
  exact ⟨a, rfl, by omega, by omega⟩
theorem o_u32 (hv : Value.okWide Try.prog W .any base 34 v) (h : DataW.Trod enc Try.prog W 0 (fun _ => true) true 34 v d p) : ∃ n : Int, v = .int .u32 n ∧ 0 ≤ n ∧ n < 4294967296 := by
  obtain ⟨a, rfl, rfl, rfl, wa⟩ := open_int Try.underlying34 hv h
  have := bounds_u32 wa
  exact ⟨a, rfl, by omega, by omega⟩
theorem o_u64 (hv : Value.okWide Try.prog W .any base 35 v) (h : DataW.Trod enc Try.prog W 0 (fun _ => true) true 35 v d p) : ∃ n : Int, v = .int .u64 n ∧ 0 ≤ n ∧ n < 18446744073709551616 := by
  obtain ⟨a, rfl, rfl, rfl, wa⟩ := open_int Try.underlying35 hv h
  have := bounds_u64 wa
  exact ⟨a, rfl, by omega, by omega⟩
theorem o_u8 (hv : Value.okWide Try.prog W .any base 5 v) (h : DataW.Trod enc Try.prog W 0 (fun _ => true) true 5 v d p) : ∃ n : Int, v = .int .u8 n ∧ 0 ≤ n ∧ n < 256 := by
  obtain ⟨a, rfl, rfl, rfl, wa⟩ := open_int Try.underlying5 hv h
  have := bounds_u8 wa
  exact ⟨a, rfl, by omega, by omega⟩
theorem o_bool (hv : Value.okWide Try.prog W .any base 4 v) (h : DataW.Trod enc Try.prog W 0 (fun _ => true) true 4 v d p) : ∃ b : Bool, v = .bool b := by
  obtain ⟨a, rfl, rfl, rfl⟩ := open_bool Try.underlying4 hv h
  exact ⟨a, rfl⟩
theorem o_ref (hv : Value.okWide Try.prog W .any base 23 v) (h : DataW.Trod enc Try.prog W 0 (fun _ => true) true 23 v d p) : ∃ (i : Int) (m : Bool) (c : Int), v = refV i m c := by
  obtain ⟨c0, c1, c2, y0, y1, y2, m, rfl, rfl, rfl, hy0, hy1, hy2⟩ := open_agg3 Try.underlying23 (by kernel_rfl) (by kernel_rfl) hv h
  obtain ⟨a, e0, rfl, wa⟩ := DataW.trod_int Try.underlying3 hy0
  obtain ⟨b, e1, rfl⟩ := DataW.trod_bool Try.underlying4 hy1
  obtain ⟨c, e2, rfl, wc⟩ := DataW.trod_int Try.underlying3 hy2
  simp at e0 e1 e2
  subst e0 e1 e2
  exact ⟨a, b, c, rfl⟩
end
end Go.Proofs.Ytlakhaiphbmffaa
