/- The reference's Told: are two rows of results the same? -/
import Derived.Test.YtdajnmmjmfhihaaMemA
namespace Go.Proofs.Ytdajnmmjmfhihaa
open Go.RowKit
attribute [local go_sem ↓] Go.wp_at_zero Go.wp_at_succ

/-- A slice of results. -/
def SlRes (w : World) (B : Nat) (A : Option Addr) (l : List (Int × Bool)) : Prop :=
  0 < l.length → ∃ b o, A = some ⟨b, o, none⟩ ∧ b < B ∧ ∀ k r, l[k]? = some r → w.cell? ⟨b, o + k * 2, none⟩ = some (.int .i64 r.1) ∧ w.cell? ⟨b, o + k * 2 + 1, none⟩ = some (.bool r.2)
theorem SlRes.below {w w' : World} {B : Nat} {A : Option Addr} {l : List (Int × Bool)} (h : SlRes w B A l) (hb : Below B w w') : SlRes w' B A l := by
  intro hl
  obtain ⟨b, o, e, hbb, hc⟩ := h hl
  refine ⟨b, o, e, hbb, fun k a ha => ?_⟩
  obtain ⟨h1, h2⟩ := hc k a ha
  exact ⟨(hb.cell (p := ⟨b, _, none⟩) hbb).trans h1, (hb.cell (p := ⟨b, _, none⟩) hbb).trans h2⟩
theorem SlRes.more {w : World} {B B' : Nat} {A : Option Addr} {l : List (Int × Bool)} (h : SlRes w B A l) (hB : B ≤ B') : SlRes w B' A l := by
  intro hl
  obtain ⟨b, o, e, hbb, hc⟩ := h hl
  exact ⟨b, o, e, Nat.lt_of_lt_of_le hbb hB, hc⟩
theorem SlRes.keepb {w w' : World} {A : Option Addr} {l : List (Int × Bool)} (h : SlRes w w.heap.size A l) (hb : Below w.heap.size w w') : SlRes w' w'.heap.size A l := (h.below hb).more hb.size

theorem resCells_get (l : List (Int × Bool)) : ∀ k r, l[k]? = some r → (resCells l)[k * 2]? = some (.int .i64 r.1) ∧ (resCells l)[k * 2 + 1]? = some (.bool r.2) := by
  induction l with
  | nil => intro k r h; simp at h
  | cons x l ih =>
    intro k r h
    cases k with
    | zero => simp at h; subst h; simp [resCells]
    | succ k =>
      obtain ⟨h1, h2⟩ := ih k r (by simpa using h)
      have e1 : (k + 1) * 2 = k * 2 + 1 + 1 := by omega
      have e2 : (k + 1) * 2 + 1 = k * 2 + 1 + 1 + 1 := by omega
      rw [e1]
      simp only [resCells, List.flatMap_cons, List.cons_append, List.nil_append, List.getElem?_cons_succ]
      exact ⟨h1, h2⟩
theorem slres_of_own {w : World} {base cap : Nat} {R : Option Addr} {rs : List (Int × Bool)} (h : OwnRes w base (.slice R rs.length cap) rs) : SlRes w w.heap.size R rs := by
  intro hl
  obtain ⟨g, cap', hv, _, hg⟩ := World.ownsRow.form h hl
  injection hv with h1 _ h3
  subst h1 h3
  refine ⟨g, 0, rfl, hg, fun k r hr => ?_⟩
  have hk : k < rs.length := (List.getElem?_eq_some_iff.1 hr).1
  obtain ⟨h1, h2⟩ := resCells_get rs k r hr
  rw [Nat.zero_add]
  exact ⟨(World.ownsRow.cellAt h (k * 2) (by omega)).trans h1, (World.ownsRow.cellAt h (k * 2 + 1) (by omega)).trans h2⟩

theorem res_neq (a : Int) (b : Bool) (c : Int) (d : Bool) (w : World) : (binOp .neq 29 (resV a b) (resV c d)).run Try.prog w = .ok (.bool (!(a == c && b == d))) w := by
  by_cases h1 : a = c
  · by_cases h2 : b = d
    · subst h1 h2; simp [go_sem]
    · subst h1; simp [go_sem, h2]
  · simp [go_sem, h1]
theorem res_eql (a : Int) (b : Bool) (c : Int) (d : Bool) (w : World) : (binOp .eql 29 (resV a b) (resV c d)).run Try.prog w = .ok (.bool (a == c && b == d)) w := by
  by_cases h1 : a = c
  · by_cases h2 : b = d
    · subst h1 h2; simp [go_sem]
    · subst h1; simp [go_sem, h2]
  · simp [go_sem, h1]

def ToldRel (w : World) (xs ys : List (Int × Bool)) (i : Value) (wr : World) : Prop :=
  ∃ k : Nat, k ≤ xs.length ∧ i = .int .i64 k ∧ Below w.heap.size w wr ∧ xs.take k = ys.take k

set_option maxHeartbeats 2000000 in
theorem told_any (A A' : Option Addr) (c c' : Nat) (xs ys : List (Int × Bool)) (w : World) (h : SlRes w w.heap.size A xs) (h' : SlRes w w.heap.size A' ys) (hm : xs.length ≤ 1000000) (hm' : ys.length ≤ 1000000) :
    Calls Try.prog 19 #[.slice A xs.length c, .slice A' ys.length c'] w (BoolBelow (decide (xs = ys)) w) := by
  by_cases hl : xs.length = ys.length
  · have hn : ((xs.length : Int) != ys.length) = false := by simp [hl]
    have HL := Lib.hid hl
    clear hl
    go_enter Try.func19, Try.ntmps19
    go_wp2
    go_loopw [5] (fun i wr => ToldRel w xs ys i wr) (fun i _ => xs.length - (intOf i).toNat)
    case atStart => exact ⟨0, Nat.zero_le _, rfl, Below.refl _ _, by simp⟩
    case round =>
      obtain ⟨k, hk, rfl, hbw, ht⟩ := hrel
      by_cases hlt : k < xs.length
      · have hlt' : k < ys.length := by rw [← HL.out]; exact hlt
        obtain ⟨b, o, hA, hbl, hcc⟩ := (h.below hbw) (by omega)
        obtain ⟨b', o', hA', hbl', hcc'⟩ := (h'.below hbw) (by omega)
        obtain ⟨⟨x1, x2⟩, hx⟩ : ∃ x, xs[k]? = some x := ⟨_, List.getElem?_eq_getElem hlt⟩
        obtain ⟨⟨y1, y2⟩, hy⟩ : ∃ y, ys[k]? = some y := ⟨_, List.getElem?_eq_getElem hlt'⟩
        obtain ⟨g1, g2⟩ := hcc k _ hx
        obtain ⟨g3, g4⟩ := hcc' k _ hy
        simp only at g1 g2 g3 g4
        subst hA hA'
        have hrn := res_neq x1 x2 y1 y2
        have i1 : (k : Int) < xs.length := by omega
        have i2 : (k : Int) < ys.length := by omega
        have HB := Lib.hid hbw
        have HT := Lib.hid (And.intro ht (And.intro hx hy))
        have HS := Lib.hid (And.intro h h')
        clear hbw ht hx hy h h' hcc hcc'
        by_cases hxy : (x1, x2) = (y1, y2)
        · have hq : (!(x1 == y1 && x2 == y2)) = false := by simp at hxy; simp [hxy]
          have HQ := Lib.hid hxy
          clear hxy
          go_wp2_with fail
          go_quiet (fail)
          go_wp2
          go_roundw
          case rel =>
            obtain ⟨h1, h2, h3⟩ := HT.out
            refine ⟨k + 1, by omega, by go_num, below_drewN (HB.out) _, ?_⟩
            rw [List.take_add_one, List.take_add_one, h1, h2, h3, HQ.out]
          case measure => simp [intOf]; omega
        · have hq : (!(x1 == y1 && x2 == y2)) = true := by
            simp at hxy
            simp
            by_cases h : x1 = y1
            · exact .inr (hxy h)
            · exact .inl h
          have hf : decide (xs = ys) = false := by
            obtain ⟨_, h2, h3⟩ := HT.out
            simp
            rintro rfl
            rw [h2] at h3
            injection h3 with h3
            exact hxy h3
          have HF := Lib.hid hf
          clear hf hxy
          go_wp2_with fail
          go_quiet (fail)
          go_wp2
          go_ret
          rw [HF.out]
          exact ⟨rfl, below_drewN (HB.out) _⟩
      · obtain rfl : k = xs.length := by omega
        have hf : decide (xs = ys) = true := by
          have e := HL.out
          rw [List.take_length, e, List.take_length] at ht
          simp [ht]
        have HF := Lib.hid hf
        have HT := Lib.hid ht
        clear hf ht
        go_wp2
        go_ret
        rw [HF.out]
        exact ⟨rfl, hbw⟩
  · have hn : ((xs.length : Int) != ys.length) = true := by simp; omega
    have hf : decide (xs = ys) = false := by simp; intro e; exact hl (by rw [e])
    rw [hf]
    have HF := Lib.hid hf
    clear hf
    go_enter Try.func19, Try.ntmps19
    go_wp2
    go_ret
    exact ⟨rfl, Below.refl _ _⟩

end Go.Proofs.Ytdajnmmjmfhihaa
