/- How a play is read: a byte, slices of slices of bytes. -/
import Derived.Test.YtgjdjgainjedhaaOpenB
import Derived.Test.YtgjdjgainjedhaaEWh
namespace Go.Proofs.Ytgjdjgainjedhaa
open Go.ChangeShapes Go.WideShapes Go.ChangeAt Go.RowKit Go.Joins Go.Deep
section
variable {H : Type} {enc : TypeId × Value → H} {W : World} {base b0 : Nat} {spare : Nat → Bool} {held : Bool} {v : Value} {d : DataW H} {p : List MemPlace}
theorem arr4 {α : Type} {l : List α} {a b c d : α} (hl : l.length = 4) (h0 : l[0]? = some a) (h1 : l[1]? = some b) (h2 : l[2]? = some c) (h3 : l[3]? = some d) : l = [a, b, c, d] := by
  match l, hl with
  | [x, y, z, u], _ => simp at h0 h1 h2 h3; simp [h0, h1, h2, h3]
theorem arr3 {α : Type} {l : List α} {a b c : α} (hl : l.length = 3) (h0 : l[0]? = some a) (h1 : l[1]? = some b) (h2 : l[2]? = some c) : l = [a, b, c] := by
  match l, hl with
  | [x, y, z], _ => simp at h0 h1 h2; simp [h0, h1, h2]
/-- A list by its elements. -/
theorem list_of {α : Type} [Inhabited α] {n : Nat} {P : Nat → α → Prop} (h : ∀ k, k < n → ∃ a, P k a) : ∃ l : List α, l.length = n ∧ ∀ k a, l[k]? = some a → P k a := by
  have hex : ∀ k, ∃ a, k < n → P k a := fun k => by
    by_cases hk : k < n
    · obtain ⟨a, ha⟩ := h k hk
      exact ⟨a, fun _ => ha⟩
    · exact ⟨default, fun hh => absurd hh hk⟩
  refine ⟨(List.range n).map fun k => Classical.choose (hex k), by simp, fun k a ha => ?_⟩
  have hkn : k < n := by
    have := (List.getElem?_eq_some_iff.1 ha).1
    simpa using this
  have hspec := Classical.choose_spec (hex k) hkn
  have e : Classical.choose (hex k) = a := by
    rw [List.getElem?_map, List.getElem?_range hkn] at ha
    simpa using ha
  rwa [e] at hspec
set_option maxRecDepth 100000 in
theorem u8s_of_trod {fuel : Nat} {A : Option Addr} {n cap : Nat} {x : DataW H × List MemPlace} (hf : DataW.trod enc Try.prog W b0 spare held fuel 23 [.slice A n cap] = some x) :
    ∃ l : List Nat, l.length = n ∧ SlU8 W W.heap.size A l := by
  obtain ⟨_, hs⟩ := sl_struct (sz := 1) Try.underlying23 (by kernel_rfl) (by omega) hf
  by_cases hn : 0 < n
  · obtain ⟨b, o, rfl, hb, hk⟩ := hs hn
    obtain ⟨l, hl, hP⟩ := list_of (α := Nat) (n := n) (P := fun k t => W.cell? ⟨b, o + k, none⟩ = some (.int .u8 (t : Nat)) ∧ t < 256) (by
      intro k hkn
      obtain ⟨cs, m, y, hl, hc, hr⟩ := hk k hkn
      obtain ⟨v, rfl⟩ : ∃ v, cs = [v] := by
        match cs, hl with
        | [v], _ => exact ⟨v, rfl⟩
      obtain ⟨z, hz, _, hw⟩ := DataW.trod_int Try.underlying5 hr
      simp at hz
      subst hz
      have hbz := bounds_u8 hw
      have := hc 0 (by omega)
      rw [Nat.mul_one, Nat.add_zero] at this
      refine ⟨z.toNat, ?_, by omega⟩
      rw [this]
      simp
      omega)
    exact ⟨l, hl, fun _ => ⟨b, o, rfl, hb, fun k t ht => hP k t ht⟩⟩
  · obtain rfl : n = 0 := by omega
    exact ⟨[], rfl, fun h => absurd h (by simp)⟩
set_option maxRecDepth 100000 in
theorem o_u8s (hv : Value.okWide Try.prog W .any base 23 v) (h : DataW.Trod enc Try.prog W 0 (fun _ => true) true 23 v d p) : ∃ (A : Option Addr) (n c : Nat) (l : List Nat), v = .slice A n c ∧ l.length = n ∧ SlU8 W W.heap.size A l := by
  obtain ⟨A, n, cap, rfl⟩ := okWide_slice Try.underlying23 hv
  obtain ⟨fuel, hf⟩ := h
  obtain ⟨l, h1, h2⟩ := u8s_of_trod (by simpa [Value.cells] using hf)
  exact ⟨A, n, cap, l, rfl, h1, h2⟩
set_option maxRecDepth 100000 in
theorem u8ss_of_trod {fuel : Nat} {A : Option Addr} {n cap : Nat} {x : DataW H × List MemPlace} (hf : DataW.trod enc Try.prog W b0 spare held fuel 22 [.slice A n cap] = some x) :
    ∃ l : List (List Nat), l.length = n ∧ SlU8s W W.heap.size A l := by
  obtain ⟨_, hs⟩ := sl_struct (sz := 1) Try.underlying22 (by kernel_rfl) (by omega) hf
  by_cases hn : 0 < n
  · obtain ⟨b, o, rfl, hb, hk⟩ := hs hn
    obtain ⟨l, hl, hP⟩ := list_of (α := List Nat) (n := n) (P := fun k xs => ∃ A' c, W.cell? ⟨b, o + k, none⟩ = some (.slice A' xs.length c) ∧ SlU8 W W.heap.size A' xs) (by
      intro k hkn
      obtain ⟨cs, m, y, hl, hc, hr⟩ := hk k hkn
      obtain ⟨v, rfl⟩ : ∃ v, cs = [v] := by
        match cs, hl with
        | [v], _ => exact ⟨v, rfl⟩
      obtain ⟨A', n', c', rfl⟩ := slice_shape Try.underlying23 hr
      obtain ⟨xs, h1, h2⟩ := u8s_of_trod hr
      subst h1
      have := hc 0 (by omega)
      rw [Nat.mul_one, Nat.add_zero] at this
      exact ⟨xs, A', c', this, h2⟩)
    exact ⟨l, hl, fun _ => ⟨b, o, rfl, hb, fun k xs hx => hP k xs hx⟩⟩
  · obtain rfl : n = 0 := by omega
    exact ⟨[], rfl, fun h => absurd h (by simp)⟩
set_option maxRecDepth 100000 in
theorem o_play (hv : Value.okWide Try.prog W .any base 25 v) (h : DataW.Trod enc Try.prog W 0 (fun _ => true) true 25 v d p) :
    ∃ (t : Int) (X : Option Addr) (n c : Nat) (T : Option Addr) (m e : Nat) (want : List (List Nat)) (turns : List Nat), v = .agg (playC t X n c T m e) ∧ 0 ≤ t ∧ t < 256 ∧ want.length = n ∧ turns.length = m ∧ SlU8s W W.heap.size X want ∧ SlU8 W W.heap.size T turns := by
  obtain ⟨cs, rfl, hsz⟩ := okWide_struct Try.underlying25 hv
  obtain ⟨fuel, hf⟩ := h
  have hc : Try.prog.cellsOf 25 = 3 := by kernel_rfl
  have hf' : DataW.trod enc Try.prog W 0 (fun _ => true) true fuel 25 cs.toList = some (d, p) := by simpa [Value.cells] using hf
  obtain ⟨t, h0, w0⟩ := fld_int Try.underlying25 (by kernel_rfl) (by kernel_rfl) hf' 0 _ rfl Try.underlying5
  obtain ⟨v1, n1, y1, h1, g1⟩ := fld Try.underlying25 (by kernel_rfl) (by kernel_rfl) hf' 1 _ rfl
  obtain ⟨v2, n2, y2, h2, g2⟩ := fld Try.underlying25 (by kernel_rfl) (by kernel_rfl) hf' 2 _ rfl
  obtain ⟨X, n, c, rfl⟩ := slice_shape Try.underlying22 g1
  obtain ⟨T, m, e, rfl⟩ := slice_shape Try.underlying23 g2
  obtain ⟨want, a1, a2⟩ := u8ss_of_trod g1
  obtain ⟨turns, b1, b2⟩ := u8s_of_trod g2
  have hb := bounds_u8 w0
  exact ⟨t, X, n, c, T, m, e, want, turns, by rw [← Array.toArray_toList (xs := cs), arr3 (by simp [hsz, hc]) h0 h1 h2], by omega, by omega, a1, b1, a2, b2⟩
end
end Go.Proofs.Ytgjdjgainjedhaa
