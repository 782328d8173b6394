/- EraWhole: what there is in the end. No program in sight. -/
import Derived.Test.YtgjdjgainjedhaaEPl
namespace Go.Proofs.Ytgjdjgainjedhaa
open Go.RowKit
set_option linter.unusedVariables false

def gn (t : TabE) (k : Nat) : List Int := ((t.seats[k]?).map fun s => s.gone.map Prod.fst).getD []
def flatG (t : TabE) (k : Nat) : List Int := (List.range k).flatMap (gn t)
theorem flatG_succ (t : TabE) (k : Nat) : flatG t (k + 1) = flatG t k ++ gn t k := by simp [flatG, List.range_succ]
/-- What EraWhole asks of the end. -/
structure WholeIn (l : Ly) (n : Nat) (t : TabE) (L : List Int) : Prop where
  len : t.seats.length = n
  ml : t.m.length ≤ 1000
  fr : 0 ≤ l.free ∧ l.free < t.m.length
  nd : ∀ a, 1 ≤ a ∧ a ≤ l.c.nodes → 0 ≤ nodeAt l a 7 ∧ nodeAt l a 7 < t.m.length
  nn : 1 ≤ l.c.nodes ∧ l.c.nodes ≤ 9
  ns : l.c.seats = n ∧ 1 ≤ n ∧ n ≤ 3
  idx : idxOf (freeOf l t.m) = L.headD 0
  ch : Chain (linkOf l t.m) L
  inr : ∀ a ∈ L, 1 ≤ a ∧ a ≤ l.c.nodes
  nod : L.Nodup
  ll : L.length ≤ 9
  cr : 0 ≤ cellOf l t.m ∧ cellOf l t.m ≤ l.c.nodes
  ce : 0 ≤ cellAt l 0 ∧ cellAt l 0 < t.m.length
  gone : ∀ (k : Nat) (s : SeatE), t.seats[k]? = some s → s.gone.length ≤ 5 ∧ ∀ x ∈ s.gone, 1 ≤ x.1 ∧ x.1 ≤ l.c.nodes
  resv : ∀ k i : Nat, k < n → i < 3 → resvOf l t.m k i = 0 ∧ 0 ≤ resvAt l (k : Int) (i : Int) ∧ resvAt l (k : Int) (i : Int) < t.m.length
  once : ∀ v, 1 ≤ v ∧ v ≤ l.c.nodes → (L ++ [cellOf l t.m] ++ flatG t n).count v = 1
  era : 1 ≤ eraOf l t.m ∧ 0 ≤ l.era ∧ l.era < t.m.length
theorem EndE.whole {l : Ly} {n sz : Nat} {want : List (List Nat)} {t : TabE} (h : EndE l n sz want t n) (ly : ELay l n sz) (hwl : ∀ k, (want.getD k []).length ≤ 5) : ∃ L, WholeIn l n t L := by
  obtain ⟨ss, ti⟩ := h.ti
  obtain ⟨L, went, ei⟩ := ti.ei
  have hns := ly.ns
  have hnn := ly.nn
  have hin := era_in ly
  obtain ⟨i1, i2⟩ := ei.idx ly (by have := ei.wt; omega)
  have hidle : ∀ k s, t.seats[k]? = some s → k < n ∧ ss k = (.idle, s.gone) := by
    intro k s hs
    have hk : k < n := by rw [← ti.len]; exact (List.getElem?_eq_some_iff.1 hs).1
    obtain ⟨j1, j2, -⟩ := ti.seat k s hs
    obtain ⟨u, hu, hf⟩ := h.fin k hk
    rw [hs] at hu
    injection hu with hu
    subst hu
    refine ⟨hk, ?_⟩
    have := is_idle j1 hf.1
    rw [← this, j2]
  have hgn : ∀ k, k < n → own (ss k) = gn t k := by
    intro k hk
    obtain ⟨s, hs⟩ : ∃ s, t.seats[k]? = some s := ⟨_, List.getElem?_eq_getElem (by rw [ti.len]; exact hk)⟩
    rw [(hidle k s hs).2]
    simp [own, Md.us, Md.sp, Md.one, Md.pr, gn, hs]
  refine ⟨L, ti.len, by rw [ei.ml]; have := ly.nd; omega, by rw [ei.ml]; exact hin.2, fun a ha => by rw [ei.ml]; exact node_in ly ha (by omega), by omega, hns, i1, ei.chain, fun a ha => ei.in_L ha, ei.nodup, ei.len ly, ?_, by rw [ei.ml]; exact cell_in ly, fun k s hs => ?_, fun k i hk hi => ?_, fun v hv => ?_, ei.era.1, by rw [ei.ml]; exact hin.1⟩
  · by_cases hc : cellOf l t.m = 0
    · omega
    · have := ei.cell_range hc; omega
  · obtain ⟨j1, j2, j3, j4, j5, j6, j7, j8, j9⟩ := ti.seat k s hs
    have := hwl k
    exact ⟨by omega, j9⟩
  · obtain ⟨s, hs⟩ : ∃ s, t.seats[k]? = some s := ⟨_, List.getElem?_eq_getElem (by rw [ti.len]; exact hk)⟩
    have hr := (ei.seat k hk).1
    rw [(hidle k s hs).2] at hr
    obtain ⟨r1, r2, r0⟩ := hr
    rw [ei.ml]
    refine ⟨?_, resv_in ly hk hi⟩
    have h3 : i = 0 ∨ i = 1 ∨ i = 2 := by omega
    rcases h3 with rfl | rfl | rfl
    · exact r0
    · exact r1
    · exact r2
  · have h1 := ei.tot v
    rw [if_pos hv] at h1
    have h2 : sumo (fun k => own (ss k)) v n = (flatG t n).count v := by
      rw [flatG, sumo_flat]
      exact sumo_congr n (fun k hk => by rw [hgn k hk])
    have h3 : (cellL (cellOf l t.m)).count v = [cellOf l t.m].count v := by
      unfold cellL
      by_cases hc : cellOf l t.m = 0
      · rw [if_pos hc, hc]
        have : ¬ (0 : Int) = v := by omega
        simp [this]
      · rw [if_neg hc]
    rw [List.count_append, List.count_append]
    omega
def hadOf (N : Nat) (S : List Int) : Array Value := ((List.range (N + 1)).map fun (a : Nat) => Value.int .i64 ((S.count (a : Int) : Nat) : Int)).toArray
theorem hadOf_get {N : Nat} {S : List Int} {a : Nat} (h : a ≤ N) : (hadOf N S)[a]? = some (.int .i64 ((S.count (a : Int) : Nat) : Int)) := by
  have : a < N + 1 := by omega
  simp [hadOf, this]
theorem hadOf_set (N : Nat) (S : List Int) (a : Nat) (h : a ≤ N) : (hadOf N S).setIfInBounds a (.int .i64 (((S.count (a : Int) : Nat) : Int) + 1)) = hadOf N (S ++ [(a : Int)]) := by
  apply Array.ext
  · simp [hadOf]
  · intro i h1 h2
    have hi : i < N + 1 := by simpa [hadOf] using h2
    rw [Array.getElem_setIfInBounds (by simpa [hadOf] using hi)]
    by_cases e : a = i
    · subst e
      simp [hadOf, List.count_append]
    · have : ¬ (a : Int) = (i : Int) := by omega
      rw [if_neg e]
      simp [hadOf, List.count_append, this]
theorem hadOf_nil (N : Nat) : madeCells #[Value.int .i64 0] ((N + 1) * 1) = hadOf N [] := by
  apply Array.ext
  · simp [hadOf, madeCells]
  · intro i h1 h2
    simp [hadOf, madeCells, Nat.mod_one]
end Go.Proofs.Ytgjdjgainjedhaa
