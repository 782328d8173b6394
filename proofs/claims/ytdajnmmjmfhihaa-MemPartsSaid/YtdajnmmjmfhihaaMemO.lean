/- How a memory, an access, and a slice of accesses are read. -/
import Derived.Test.YtdajnmmjmfhihaaOpenB
import Derived.Test.YtdajnmmjmfhihaaMemA
namespace Go.Proofs.Ytdajnmmjmfhihaa
open Go.ChangeShapes Go.WideShapes Go.ChangeAt Go.RowKit Go.Joins Go.Deep
section
variable {H : Type} {enc : TypeId × Value → H} {W : World} {base b0 : Nat} {spare : Nat → Bool} {held : Bool} {v : Value} {d : DataW H} {p : List MemPlace}
theorem arr1 {α : Type} {l : List α} {a : α} (hl : l.length = 1) (h0 : l[0]? = some a) : l = [a] := by
  match l, hl with
  | [x], _ => simpa using h0
theorem arr4 {α : Type} {l : List α} {a b c d : α} (hl : l.length = 4) (h0 : l[0]? = some a) (h1 : l[1]? = some b) (h2 : l[2]? = some c) (h3 : l[3]? = some d) : l = [a, b, c, d] := by
  match l, hl with
  | [x, y, z, u], _ => simp at h0 h1 h2 h3; simp [h0, h1, h2, h3]
theorem acc_cells {fuel : Nat} {cs : List Value} {x : DataW H × List MemPlace} (hl : cs.length = 4) (h : DataW.trod enc Try.prog W b0 spare held fuel 26 cs = some x) : ∃ a : Acc, cs = [.int .i64 a.kind, .int .i64 a.cell, .int .i64 a.old, .int .i64 a.new] := by
  obtain ⟨k, h0, _⟩ := fld_int Try.underlying26 (by kernel_rfl) (by kernel_rfl) h 0 _ rfl Try.underlying3
  obtain ⟨c, h1, _⟩ := fld_int Try.underlying26 (by kernel_rfl) (by kernel_rfl) h 1 _ rfl Try.underlying3
  obtain ⟨o, h2, _⟩ := fld_int Try.underlying26 (by kernel_rfl) (by kernel_rfl) h 2 _ rfl Try.underlying3
  obtain ⟨n, h3, _⟩ := fld_int Try.underlying26 (by kernel_rfl) (by kernel_rfl) h 3 _ rfl Try.underlying3
  exact ⟨⟨k, c, o, n⟩, arr4 hl h0 h1 h2 h3⟩
theorem o_acc (hv : Value.okWide Try.prog W .any base 26 v) (h : DataW.Trod enc Try.prog W 0 (fun _ => true) true 26 v d p) : ∃ a : Acc, v = accV a := by
  obtain ⟨cs, rfl, hsz⟩ := okWide_struct Try.underlying26 hv
  obtain ⟨fuel, hf⟩ := h
  have hc : Try.prog.cellsOf 26 = 4 := by kernel_rfl
  obtain ⟨a, ha⟩ := acc_cells (cs := cs.toList) (by simp [hsz, hc]) (by simpa [Value.cells] using hf)
  exact ⟨a, by rw [← Array.toArray_toList (xs := cs), ha]⟩
theorem o_mem (hv : Value.okWide Try.prog W .any base 24 v) (h : DataW.Trod enc Try.prog W 0 (fun _ => true) true 24 v d p) : ∃ (A : Option Addr) (c : Nat) (zs : List Int), v = memV A zs.length c ∧ Sl W W.heap.size A zs.length (ints zs) := by
  obtain ⟨cs, rfl, hsz⟩ := okWide_struct Try.underlying24 hv
  obtain ⟨fuel, hf⟩ := h
  have hc : Try.prog.cellsOf 24 = 1 := by kernel_rfl
  obtain ⟨v0, n0, y0, h0, hy⟩ := fld (cs := cs.toList) Try.underlying24 (by kernel_rfl) (by kernel_rfl) (by simpa [Value.cells] using hf) 0 _ rfl
  obtain ⟨A, n, c, rfl⟩ := slice_shape Try.underlying22 hy
  obtain ⟨zs, hl, _, hS, _⟩ := sl_of_trod Try.underlying22 Try.underlying3 (by kernel_rfl) hy
  subst hl
  exact ⟨A, c, zs, by rw [← Array.toArray_toList (xs := cs), arr1 (by simp [hsz, hc]) h0], hS⟩
theorem o_accs (hv : Value.okWide Try.prog W .any base 36 v) (h : DataW.Trod enc Try.prog W 0 (fun _ => true) true 36 v d p) : ∃ (A : Option Addr) (c : Nat) (l : List Acc), v = .slice A l.length c ∧ SlAcc W W.heap.size A l := by
  obtain ⟨A, n, cap, rfl⟩ := okWide_slice Try.underlying36 hv
  obtain ⟨fuel, hf⟩ := h
  obtain ⟨_, hs⟩ := sl_struct (sz := 4) Try.underlying36 (by kernel_rfl) (by omega) (by simpa [Value.cells] using hf)
  by_cases hn : 0 < n
  · obtain ⟨b, o, rfl, hb, hk⟩ := hs hn
    have hex : ∀ k, ∃ a : Acc, k < n → W.cell? ⟨b, o + k * 4, none⟩ = some (.int .i64 a.kind) ∧ W.cell? ⟨b, o + k * 4 + 1, none⟩ = some (.int .i64 a.cell) ∧ W.cell? ⟨b, o + k * 4 + 2, none⟩ = some (.int .i64 a.old) ∧ W.cell? ⟨b, o + k * 4 + 3, none⟩ = some (.int .i64 a.new) := by
      intro k
      by_cases hkn : k < n
      · obtain ⟨cs, m, y, hl, hc, hr⟩ := hk k hkn
        obtain ⟨a, rfl⟩ := acc_cells hl hr
        exact ⟨a, fun _ => ⟨hc 0 (by omega), hc 1 (by omega), hc 2 (by omega), hc 3 (by omega)⟩⟩
      · exact ⟨⟨0, 0, 0, 0⟩, fun h => absurd h hkn⟩
    refine ⟨_, cap, (List.range n).map fun k => Classical.choose (hex k), by simp, fun _ => ⟨b, o, rfl, hb, fun k a ha => ?_⟩⟩
    have hkn : k < n := by
      have := (List.getElem?_eq_some_iff.1 ha).1
      simpa using this
    have hspec := Classical.choose_spec (hex k) hkn
    have e : Classical.choose (hex k) = a := by
      rw [List.getElem?_map, List.getElem?_range hkn] at ha
      simpa using ha
    rwa [e] at hspec
  · obtain rfl : n = 0 := by omega
    exact ⟨A, cap, [], rfl, fun h => absurd h (by simp)⟩
end
end Go.Proofs.Ytdajnmmjmfhihaa
