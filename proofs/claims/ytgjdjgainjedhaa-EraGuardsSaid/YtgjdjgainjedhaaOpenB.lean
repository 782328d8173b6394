/- How structs, and slices of structs, are read, field by field; over any program. -/
import Derived.Test.YtgjdjgainjedhaaOpen
import Derived.Deep.Slices
import Derived.Deep.Fields
namespace Go.Proofs.Ytgjdjgainjedhaa
open Go.ChangeShapes Go.WideShapes Go.ChangeAt Go.RowKit Go.Joins Go.Deep
section
variable {H : Type} {enc : TypeId × Value → H} {P : Program} {W : World} {b0 : Nat} {spare : Nat → Bool} {held : Bool}

/-- A field of one cell: its cell, and that cell's own reading. -/
theorem fld {t : TypeId} {fs : Array Field} {fuel : Nat} {cs : List Value} {x : DataW H × List MemPlace} (hs : P.underlying t = some (.struct fs)) (hone : oneCellFields P fs = true) (hC : P.cellsOf t = fs.size)
    (h : DataW.trod enc P W b0 spare held fuel t cs = some x) (i : Nat) (f : Field) (hf : fs[i]? = some f) : ∃ v n y, cs[i]? = some v ∧ DataW.trod enc P W b0 spare held n f.type [v] = some y := by
  obtain ⟨xs, n, _, _, hl, hxl, hg⟩ := DataW.trod_struct hs h
  obtain ⟨ho, hk⟩ := hone_of hone i f hf
  have hi : i < fs.size := (Array.getElem?_eq_some_iff.1 hf).1
  have hic : i < cs.length := by rw [hl, hC]; exact hi
  have h1 := hg i f hf
  have e : (cs.drop i).take 1 = [cs[i]] := by rw [List.drop_eq_getElem_cons hic]; rfl
  rw [ho, hk, e] at h1
  have hxi : i < xs.length := by omega
  rw [List.getElem?_eq_getElem hxi] at h1
  exact ⟨cs[i], n, xs[i], List.getElem?_eq_getElem hic, h1⟩
theorem fld_int {t : TypeId} {fs : Array Field} {fuel : Nat} {cs : List Value} {x : DataW H × List MemPlace} {k : IntKind} (hs : P.underlying t = some (.struct fs)) (hone : oneCellFields P fs = true) (hC : P.cellsOf t = fs.size)
    (h : DataW.trod enc P W b0 spare held fuel t cs = some x) (i : Nat) (f : Field) (hf : fs[i]? = some f) (hk : P.underlying f.type = some (.int k)) : ∃ n, cs[i]? = some (.int k n) ∧ (Lit.int k n).wf = true := by
  obtain ⟨v, n, y, hv, hy⟩ := fld hs hone hC h i f hf
  obtain ⟨m, hm, _, hw⟩ := DataW.trod_int hk hy
  simp at hm
  subst hm
  exact ⟨m, hv, hw⟩
theorem fld_bool {t : TypeId} {fs : Array Field} {fuel : Nat} {cs : List Value} {x : DataW H × List MemPlace} (hs : P.underlying t = some (.struct fs)) (hone : oneCellFields P fs = true) (hC : P.cellsOf t = fs.size)
    (h : DataW.trod enc P W b0 spare held fuel t cs = some x) (i : Nat) (f : Field) (hf : fs[i]? = some f) (hk : P.underlying f.type = some .bool) : ∃ b, cs[i]? = some (.bool b) := by
  obtain ⟨v, n, y, hv, hy⟩ := fld hs hone hC h i f hf
  obtain ⟨m, hm, _⟩ := DataW.trod_bool hk hy
  simp at hm
  subst hm
  exact ⟨m, hv⟩
theorem slice_shape {t e : TypeId} {fuel : Nat} {v : Value} {x : DataW H × List MemPlace} (ht : P.underlying t = some (.slice e)) (h : DataW.trod enc P W b0 spare held fuel t [v] = some x) : ∃ A n c, v = .slice A n c := by
  rcases open_slice ht h with ⟨h0, _⟩ | ⟨a, len, cap, _, _, _, _, h0, _⟩
  · simp at h0; exact ⟨_, _, _, h0⟩
  · simp at h0; exact ⟨_, _, _, h0⟩

/-- A slice of structs of so many cells: where each one's cells lie, and that they read. -/
theorem sl_struct {t e : TypeId} {fuel sz : Nat} {A : Option Addr} {n cap : Nat} {x : DataW H × List MemPlace} (ht : P.underlying t = some (.slice e)) (hsz : P.cellsOf e = sz) (hp : 0 < sz)
    (hf : DataW.trod enc P W b0 spare held fuel t [.slice A n cap] = some x) :
    n ≤ maxLen ∧ (0 < n → ∃ b o : Nat, A = some ⟨b, o, none⟩ ∧ b < W.heap.size ∧ ∀ k, k < n → ∃ (cs : List Value) (m : Nat) (y : DataW H × List MemPlace), cs.length = sz ∧ (∀ i, i < sz → W.cell? ⟨b, o + k * sz + i, none⟩ = cs[i]?) ∧ DataW.trod enc P W b0 spare held m e cs = some y) := by
  rcases open_slice ht hf with ⟨h0, _⟩ | ⟨a, len, c, m, fl, D, Pl, h0, _, hl, hm, hmm, _, hel⟩
  · simp at h0
    obtain ⟨rfl, rfl, rfl⟩ := h0
    exact ⟨by simp [maxLen], fun h => absurd h (by omega)⟩
  · simp at h0
    obtain ⟨rfl, rfl, rfl⟩ := h0
    refine ⟨Nat.le_trans hl hm, fun hn => ?_⟩
    have hm' : n ≤ m := by rw [hmm]; split <;> omega
    rw [hsz] at hel
    have hspot : a.spot = none := by
      obtain ⟨cs, hc, _⟩ := hel 0 (by omega)
      obtain ⟨_, hcl, hat⟩ := World.cells?_some hc
      have h1 := hat 0 hp
      rw [List.getElem?_eq_getElem (by omega)] at h1
      simpa [Addr.add] using World.cell?_spot h1
    obtain ⟨b, o, sp⟩ := a
    simp only at hspot
    subst hspot
    refine ⟨b, o, rfl, ?_, fun k hk => ?_⟩
    · obtain ⟨cs, hc, _⟩ := hel 0 (by omega)
      obtain ⟨_, hcl, hat⟩ := World.cells?_some hc
      have h1 := hat 0 hp
      rw [List.getElem?_eq_getElem (by omega)] at h1
      have := cell_lt h1
      simpa [Addr.add] using this
    · obtain ⟨cs, hc, hr⟩ := hel k (by omega)
      obtain ⟨_, hcl, hat⟩ := World.cells?_some hc
      refine ⟨cs, _, _, hcl, fun i hi => ?_, hr⟩
      have := hat i hi
      rwa [add_plain, add_plain] at this
end
end Go.Proofs.Ytgjdjgainjedhaa
