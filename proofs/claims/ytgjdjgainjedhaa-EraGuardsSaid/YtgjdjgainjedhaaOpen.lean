/- How arguments are read: integers, bools, slices of ints; over any program. -/
import Derived.Test.YtgjdjgainjedhaaLib
import Derived.WalkKit
import Derived.ProofKit
import Derived.OpenShut
import Derived.Lib.SmallJoins
namespace Go.Proofs.Ytgjdjgainjedhaa
open Go.ChangeShapes Go.WideShapes Go.ChangeAt Go.RowKit Go.Joins

theorem cell_lt {w : World} {a : Addr} {v : Value} (h : w.cell? a = some v) : a.block < w.heap.size := by
  by_cases hg : a.block < w.heap.size
  · exact hg
  · have h0 : w.heap[a.block]? = none := Array.getElem?_eq_none (Nat.le_of_not_lt hg)
    simp [World.cell?, h0] at h

def ints (zs : List Int) : List Value := zs.map (Value.int .i64)
theorem ints_get {zs : List Int} {k : Nat} {u : Value} (h : (ints zs)[k]? = some u) : ∃ z, zs[k]? = some z ∧ u = .int .i64 z := by
  simp only [ints, List.getElem?_map, Option.map_eq_some_iff] at h
  obtain ⟨z, h1, h2⟩ := h
  exact ⟨z, h1, h2.symm⟩
theorem ints_length (zs : List Int) : (ints zs).length = zs.length := by simp [ints]

section
variable {H : Type} {enc : TypeId × Value → H} {P : Program} {W : World} {base : Nat} {v : Value} {d : DataW H} {p : List MemPlace} {t e : TypeId}
theorem o_i64 (ht : P.underlying t = some (.int .i64)) (hv : Value.okWide P W .any base t v) (h : DataW.Trod enc P W 0 (fun _ => true) true t v d p) : ∃ n : Int, v = .int .i64 n ∧ -9223372036854775808 ≤ n ∧ n ≤ 9223372036854775807 := by
  obtain ⟨a, rfl, rfl, rfl, wa⟩ := open_int ht hv h
  exact ⟨a, rfl, bounds_i64 wa⟩
theorem o_u8 (ht : P.underlying t = some (.int .u8)) (hv : Value.okWide P W .any base t v) (h : DataW.Trod enc P W 0 (fun _ => true) true t v d p) : ∃ n : Int, v = .int .u8 n ∧ 0 ≤ n ∧ n < 256 := by
  obtain ⟨a, rfl, rfl, rfl, wa⟩ := open_int ht hv h
  have := bounds_u8 wa
  exact ⟨a, rfl, by omega, by omega⟩
theorem o_u16 (ht : P.underlying t = some (.int .u16)) (hv : Value.okWide P W .any base t v) (h : DataW.Trod enc P W 0 (fun _ => true) true t v d p) : ∃ n : Int, v = .int .u16 n ∧ 0 ≤ n ∧ n < 65536 := by
  obtain ⟨a, rfl, rfl, rfl, wa⟩ := open_int ht hv h
  have := bounds_u16 wa
  exact ⟨a, rfl, by omega, by omega⟩
theorem o_u32 (ht : P.underlying t = some (.int .u32)) (hv : Value.okWide P W .any base t v) (h : DataW.Trod enc P W 0 (fun _ => true) true t v d p) : ∃ n : Int, v = .int .u32 n ∧ 0 ≤ n ∧ n < 4294967296 := by
  obtain ⟨a, rfl, rfl, rfl, wa⟩ := open_int ht hv h
  have := bounds_u32 wa
  exact ⟨a, rfl, by omega, by omega⟩

/-- The cells of a slice of ints, read by whatever mode: the value, its list. -/
theorem sl_of_trod {fuel : Nat} {A : Option Addr} {n cap : Nat} {x : DataW H × List MemPlace} {spare : Nat → Bool} {held : Bool} {b0 : Nat} (ht : P.underlying t = some (.slice e)) (he : P.underlying e = some (.int .i64)) (hc : P.cellsOf e = 1)
    (hf : DataW.trod enc P W b0 spare held fuel t [.slice A n cap] = some x) : ∃ zs : List Int, zs.length = n ∧ n ≤ maxLen ∧ Sl W W.heap.size A n (ints zs) ∧ ∀ z ∈ zs, -9223372036854775808 ≤ z ∧ z ≤ 9223372036854775807 := by
  rcases open_ints ht he hc hf with ⟨hcs, _⟩ | ⟨a, len, c, zs, hcs, _, hl, hm, hz, _, hcell, hwz⟩
  · simp at hcs
    obtain ⟨rfl, rfl, rfl⟩ := hcs
    exact ⟨[], rfl, by simp [maxLen], Sl.nil _ _ _, by simp⟩
  · simp at hcs
    obtain ⟨rfl, rfl, rfl⟩ := hcs
    have hlen : n ≤ zs.length := by rw [hz]; split <;> omega
    refine ⟨zs.take n, by simp; omega, Nat.le_trans hl hm, ⟨by simp [ints]; omega, fun hn => ?_⟩, fun z hz' => bounds_i64 (hwz z (List.mem_of_mem_take hz'))⟩
    obtain ⟨b, o, rfl, hc'⟩ := ints_at hcell (by omega)
    refine ⟨b, o, rfl, cell_lt (hc' 0 (by omega)), fun j u hu => ?_⟩
    obtain ⟨z, hz1, rfl⟩ := ints_get hu
    have hj : j < n := by
      have := (List.getElem?_eq_some_iff.1 hz1).1
      simp at this; omega
    rw [hc' j (by omega)]
    rw [List.getElem?_take_of_lt hj] at hz1
    simp [hz1]

theorem o_ints (ht : P.underlying t = some (.slice e)) (he : P.underlying e = some (.int .i64)) (hc : P.cellsOf e = 1) (hv : Value.okWide P W .any base t v) (h : DataW.Trod enc P W 0 (fun _ => true) true t v d p) :
    ∃ (A : Option Addr) (n cap : Nat) (zs : List Int), v = .slice A n cap ∧ zs.length = n ∧ n ≤ maxLen ∧ Sl W W.heap.size A n (ints zs) ∧ ∀ z ∈ zs, -9223372036854775808 ≤ z ∧ z ≤ 9223372036854775807 := by
  obtain ⟨A, n, cap, rfl⟩ := okWide_slice ht hv
  obtain ⟨fuel, hf⟩ := h
  obtain ⟨zs, h1, h2, h3, h4⟩ := sl_of_trod ht he hc hf
  exact ⟨A, n, cap, zs, rfl, h1, h2, h3, h4⟩
end
end Go.Proofs.Ytgjdjgainjedhaa
