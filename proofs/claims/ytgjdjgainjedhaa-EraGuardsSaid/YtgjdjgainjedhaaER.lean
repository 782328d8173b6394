/- The eras' plain law: the beginning of a play, what is safe, the end. No program in sight. -/
import Derived.Test.YtgjdjgainjedhaaESf
import Derived.Test.YtgjdjgainjedhaaEBh
namespace Go.Proofs.Ytgjdjgainjedhaa
open Go.RowKit
set_option linter.unusedVariables false

def upTo (k : Nat) : List Int := (List.range k).map fun (j : Nat) => (j : Int) + 1
theorem count_upTo (v : Int) : ∀ k : Nat, (upTo k).count v = if 1 ≤ v ∧ v ≤ k then 1 else 0 := by
  intro k
  induction k with
  | zero =>
    rw [if_neg (by omega)]
    rfl
  | succ k ih =>
    have e : upTo (k + 1) = upTo k ++ [(k : Int) + 1] := by simp [upTo, List.range_succ]
    rw [e, List.count_append, ih]
    simp only [List.count_cons, List.count_nil, beq_iff_eq]
    by_cases h1 : (k : Int) + 1 = v
    · rw [if_neg (by omega), if_pos h1, if_pos (by omega)]
    · rw [if_neg h1]
      by_cases h2 : 1 ≤ v ∧ v ≤ (k : Int)
      · rw [if_pos h2, if_pos (by omega)]
      · rw [if_neg h2, if_neg (by omega)]
def chainB (k : Int → Int) : List Int → Bool
  | [] => true
  | a :: r => k a == r.headD 0 && chainB k r
theorem chainB_spec {k : Int → Int} : ∀ {L}, chainB k L = true → Chain k L
  | [], _ => trivial
  | a :: r, h => by
    simp only [chainB, Bool.and_eq_true, beq_iff_eq] at h
    exact ⟨h.1, chainB_spec h.2⟩
theorem mem_upTo {a : Int} {k : Nat} : a ∈ upTo k ↔ 1 ≤ a ∧ a ≤ k := by
  simp only [upTo, List.mem_map, List.mem_range]
  constructor
  · rintro ⟨j, hj, rfl⟩; omega
  · intro h; exact ⟨(a - 1).toNat, by omega, by omega⟩
theorem sumo_flat (f : Nat → List Int) (v : Int) : ∀ n, ((List.range n).flatMap f).count v = sumo f v n
  | 0 => rfl
  | n + 1 => by rw [List.range_succ, List.flatMap_append, List.count_append, sumo_flat f v n]; simp [sumo]
section
variable {l : Ly} {n sz T : Nat} {m : List Int} {ss : Nat → SA} {L : List Int} {went : Nat} {want : List (List Nat)} {t : TabE}
theorem EI.nodup (h : EI l n sz T m ss L went) : L.Nodup := List.nodup_iff_count.2 fun a => h.L_once a
theorem EI.len (h : EI l n sz T m ss L went) (ly : ELay l n sz) : L.length ≤ 9 := by
  have hn := ly.nn
  have hc : ∀ v, (L ++ (cellL (cellOf l m) ++ (List.range n).flatMap fun k => own (ss k))).count v = (upTo l.c.nodes.toNat).count v := fun v => by
    rw [List.count_append, List.count_append, sumo_flat, count_upTo]
    have h1 := h.tot v
    have : ((l.c.nodes.toNat : Nat) : Int) = l.c.nodes := by omega
    rw [this]
    omega
  have hp := (List.perm_iff_count.2 hc).length_eq
  rw [List.length_append] at hp
  have : (upTo l.c.nodes.toNat).length = l.c.nodes.toNat := by simp [upTo]
  omega
theorem holds_md {w k : Nat} {s : SeatE} {md : Md} (is : Is l w s md) (hb : s.busy = true) (hw : w % 2 = 1) (hn : s.node ≠ 0) (ha : s.at_ = 1 ∨ s.at_ = 2 ∨ (s.at_ = 3 ∧ s.log = [])) : Holds l m k md (resvOf l m k 0) s.node := by
  cases is with
  | idle b h => rw [hb] at b; cases b
  | tk b e a h => omega
  | put b e a lg h => omega
  | swp b e a lg h => omega
  | ret b e a c h => omega
  | gd b e a c h => omega
  | rd k' v b e a hk lg hv h => subst h; exact ⟨rfl, rfl⟩
  | dr b e a c h =>
    have hl : s.log = [] := by rcases ha with q | q | q; omega; omega; exact q.2
    rw [hl, start_d] at h
    subst h
    exact ⟨rfl, rfl, rfl, hn⟩
theorem holdsE_in {k : Nat} {s : SeatE} (h : holdsE want k s = true) : s.busy = true ∧ wish want k s % 2 = 1 ∧ s.node ≠ 0 ∧ (s.at_ = 1 ∨ s.at_ = 2 ∨ (s.at_ = 3 ∧ s.log = [])) := by
  simp only [holdsE, Bool.and_eq_true, Bool.or_eq_true, decide_eq_true_eq] at h
  obtain ⟨h1, h2, h3, h4, h5⟩ := h
  refine ⟨h1, h3, h4, ?_⟩
  rcases h5 with h5 | h5 | ⟨h5, h6⟩
  · exact .inl h5
  · exact .inr (.inl h5)
  · exact .inr (.inr ⟨h5, List.eq_nil_of_length_eq_zero h6⟩)
/-- What is right is safe. -/
theorem OkE.safe (h : OkE l n sz want t) (ly : ELay l n sz) (hwl : ∀ k, (want.getD k []).length ≤ 5) : ∃ L, SafeIn l want n t L := by
  obtain ⟨T, ss, hT, ti⟩ := h.ti
  obtain ⟨L, went, ei⟩ := ti.ei
  have hns := ly.ns
  obtain ⟨i1, i2⟩ := ei.idx ly (by have := ei.wt; omega)
  have hnn := ly.nn
  have hin := era_in ly
  refine ⟨L, ti.len, by rw [ei.ml]; have := ly.nd; omega, by rw [ei.ml]; exact hin.2, fun a ha => by rw [ei.ml]; exact node_in ly ha (by omega), by omega, i1, ei.chain, fun a ha => ei.in_L ha, ei.nodup, by have := ei.len ly; omega, fun k s hs => ?_, ?_, by rw [ei.ml]; exact cell_in ly⟩
  · have hk : k < n := by rw [← ti.len]; exact (List.getElem?_eq_some_iff.1 hs).1
    obtain ⟨i1, i2, i3, i4, i5, i6, i7, i8, i9⟩ := ti.seat k s hs
    refine ⟨⟨i4, i7⟩, by have := hwl k; omega, by have := h.log s (List.mem_of_getElem? hs); omega, i5, fun hh => ?_⟩
    obtain ⟨h1, h2, h3, h4⟩ := holdsE_in hh
    exact ei.prot_L (ei.prot k hk _ _ (holds_md i1 h1 h2 h3 h4))
  · by_cases hc : cellOf l t.m = 0
    · exact .inl hc
    · refine .inr fun hL => ?_
      have h1 := ei.tot (cellOf l t.m)
      have h2 := List.count_pos_iff.2 hL
      have h3 : (cellL (cellOf l t.m)).count (cellOf l t.m) = 1 := by unfold cellL; rw [if_neg hc]; simp
      split at h1 <;> omega
/-- What a turn's walk asks of a seat. -/
theorem OkE.turn (h : OkE l n sz want t) (ly : ELay l n sz) (hwl : ∀ k, (want.getD k []).length ≤ 5) {k : Nat} {s : SeatE} (hs : t.seats[k]? = some s) :
    s.log.length ≤ 1000 ∧ s.gone.length ≤ 900 ∧ (∀ x ∈ s.gone, x.1 ≤ 1000000) ∧ s.at_ ≤ 3 ∧ s.node ≤ 1000000 ∧ (s.next ≤ (want.getD k []).length ∧ (s.busy = true → 1 ≤ s.next)) ∧ (want.getD k []).length ≤ 1000 ∧ t.seats.length = n ∧ t.m.length ≤ 1000 ∧ (turnE l want k t).bad = false := by
  obtain ⟨T, ss, hT, ti⟩ := h.ti
  obtain ⟨L, went, ei⟩ := ti.ei
  have hk : k < n := by rw [← ti.len]; exact (List.getElem?_eq_some_iff.1 hs).1
  obtain ⟨i1, i2, i3, i4, i5, i6, i7, i8, i9⟩ := ti.seat k s hs
  obtain ⟨ss', tn⟩ := ti.turn ly (by omega) hwl hs
  have h5 := hwl k
  have hnn := ly.nn
  have hgl : s.gone.length ≤ 900 ∧ ∀ x ∈ s.gone, x.1 ≤ 1000000 := ⟨by omega, fun x hx => by have := i9 x hx; omega⟩
  exact ⟨by have := h.log s (List.mem_of_getElem? hs); omega, hgl.1, hgl.2, i5, by omega, ⟨i4, i7⟩, by omega, ti.len, by rw [ei.ml]; have := ly.nd; omega, tn.ti.bad⟩
end
/-- All that is asked of a layout and its beginning, by counting. -/
def layEB (l : Ly) (n : Nat) : Bool :=
  decide (2 ≤ l.c.nodes ∧ l.c.nodes ≤ 9) && decide (l.c.seats = n ∧ 1 ≤ n ∧ n ≤ 3) && decide (0 ≤ l.era ∧ l.era < l.resv) && decide (0 ≤ l.free ∧ l.free < l.resv ∧ l.era ≠ l.free) && decide (l.resv + l.c.seats * 3 ≤ l.cell) && decide (1 ≤ l.c.cells ∧ l.cell < l.node) && decide (l.node + l.c.nodes * 8 ≤ (beginE l).length ∧ (beginE l).length ≤ 1000) && decide (l.size = (beginE l).length) &&
  decide (freeOf l (beginE l) = packI ((upTo l.c.nodes.toNat).headD 0) false 0) && chainB (linkOf l (beginE l)) (upTo l.c.nodes.toNat) && ((upTo l.c.nodes.toNat).all fun a => decide (0 ≤ linkOf l (beginE l) a ∧ linkOf l (beginE l) a ≤ l.c.nodes)) &&
  decide (eraOf l (beginE l) = 1) && decide (cellOf l (beginE l) = 0) && ((List.range n).all fun k => (List.range 3).all fun i => decide (resvOf l (beginE l) k i = 0)) && decide (1 ≤ l.size ∧ l.size ≤ 1000) && decide (allErr (List.replicate l.size.toNat 0) (initE l) = 0)
theorem layEB_play (n : Nat) (t : Int) (h1 : 1 ≤ n) (h2 : n ≤ 3) : layEB (playL n t) n = true := by
  have m0 : 0 ≤ t % 8 := Int.emod_nonneg _ (by omega)
  have m1 : t % 8 < 8 := Int.emod_lt_of_pos _ (by omega)
  have hn : n = 1 ∨ n = 2 ∨ n = 3 := by omega
  unfold playL playCf
  generalize t % 8 = r at *
  have hr : r = 0 ∨ r = 1 ∨ r = 2 ∨ r = 3 ∨ r = 4 ∨ r = 5 ∨ r = 6 ∨ r = 7 := by omega
  rcases hn with rfl | rfl | rfl <;> rcases hr with rfl | rfl | rfl | rfl | rfl | rfl | rfl | rfl <;> decide +kernel
structure LayOk (l : Ly) (n : Nat) : Prop where
  lay : ELay l n (beginE l).length
  ti : ∀ want, TI l n (beginE l).length 0 want (startE0 l n) (fun _ => (.idle, []))
  sz : 1 ≤ l.size ∧ l.size ≤ 1000
  err : allErr (List.replicate l.size.toNat 0) (initE l) = 0
theorem sumo_nil (v : Int) : ∀ n, sumo (fun _ => own (Md.idle, [])) v n = 0
  | 0 => rfl
  | n + 1 => by simp only [sumo, sumo_nil v n]; rfl
theorem layOk_of {l : Ly} {n : Nat} (h : layEB l n = true) : LayOk l n := by
  simp only [layEB, Bool.and_eq_true, decide_eq_true_eq, List.all_eq_true] at h
  obtain ⟨⟨⟨⟨⟨⟨⟨⟨⟨⟨⟨⟨⟨⟨⟨a1, a2⟩, a3⟩, a4⟩, a5⟩, a6⟩, a7⟩, a8⟩, a9⟩, b1⟩, b2⟩, b3⟩, b4⟩, b5⟩, b6⟩, b7⟩ := h
  have hN : ((l.c.nodes.toNat : Nat) : Int) = l.c.nodes := by omega
  have hr : ∀ k i, k < n → i < 3 → resvOf l (beginE l) k i = 0 := fun k i hk hi => b5 k (List.mem_range.2 hk) i (List.mem_range.2 hi)
  refine ⟨⟨a1, a2, a3, a4, a5, a6, a7, a8⟩, fun want => ⟨⟨upTo l.c.nodes.toNat, 0, rfl, a9, chainB_spec b1, fun v => ?_, fun a ha => b2 a (mem_upTo.2 (by omega)), by show 1 ≤ eraOf l (beginE l) ∧ eraOf l (beginE l) ≤ _; rw [b3]; omega, Nat.le_refl _, fun hc => absurd b4 hc, fun k hk => ⟨⟨hr k 1 hk (by omega), hr k 2 hk (by omega), hr k 0 hk (by omega)⟩, trivial⟩, fun k _ e x q => q.elim⟩, by simp [startE0], rfl, fun k s hs => ?_⟩, b6, b7⟩
  · show (upTo l.c.nodes.toNat).count v + (cellL (cellOf l (beginE l))).count v + _ = _
    rw [count_upTo, hN, b4, sumo_nil]
    simp [cellL]
  · rw [show (startE0 l n).seats = List.replicate n seatE0 from rfl, List.getElem?_replicate] at hs
    split at hs
    · injection hs with hs
      subst hs
      exact ⟨.idle rfl rfl, rfl, Nat.le_refl _, Nat.zero_le _, Nat.zero_le _, (by decide), (fun q => by cases q), Nat.zero_le _, (fun x hx => by cases hx)⟩
    · cases hs
theorem start_logs (l : Ly) (n : Nat) : ∀ s ∈ (startE0 l n).seats, s.log.length ≤ 0 := by
  intro s hs
  have := (List.mem_replicate.1 hs).2
  subst this
  exact Nat.le_refl _
/-- A play, from its beginning on. -/
theorem play_ok {l : Ly} {n : Nat} (h : LayOk l n) (want : List (List Nat)) (hw : ∀ xs ∈ want, xs.length ≤ 5) (turns : List Nat) (ht : turns.length ≤ 200) :
    (∀ k, (want.getD k []).length ≤ 5) ∧ (∀ i, i ≤ turns.length → OkE l n (beginE l).length want (runE l want (startE0 l n) ((turns.take i).map (· % n)))) ∧ (∀ k, k < n → ∀ i, i ≤ 700 → OkE l n (beginE l).length want (runE l want (startE0 l n) (whosP n turns k i))) ∧ (∀ k, k ≤ n → EndE l n (beginE l).length want (runE l want (startE0 l n) (whosP n turns k 0)) k) := by
  have hwl : ∀ k, (want.getD k []).length ≤ 5 := by
    intro k
    rw [List.getD_eq_getElem?_getD]
    cases e : want[k]? with
    | none => simp
    | some xs => exact hw xs (List.mem_of_getElem? e)
  exact ⟨hwl, all_ok h.lay hwl (h.ti want) (start_logs l n) turns ht⟩
end Go.Proofs.Ytgjdjgainjedhaa
