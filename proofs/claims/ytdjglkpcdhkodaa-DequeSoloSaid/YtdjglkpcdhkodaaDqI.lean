/- The deque's plain law: what holds of the memory and of all who are at work, behind every access. No program in sight. -/
import Derived.Test.YtdjglkpcdhkodaaDqP
namespace Go.Proofs.Ytdjglkpcdhkodaa
open Go.RowKit
set_option linter.unusedVariables false

/-- A pop that has lowered the bottom and is not done. -/
def Ph.fl : Ph → Bool
  | .o2 _ | .oe _ | .o3 _ _ | .o4 _ _ _ | .o5 _ _ | .o6 _ _ _ => true
  | _ => false
def fli (p : Ph) : Int := if p.fl then 1 else 0
/-- As far as a thief may get. -/
def beff (m : List Int) (p : Ph) (q : Bool) : Int := bot m + (if p.fl && q then 1 else 0)
/-- What the owner knows. -/
def OwnOk (l : Ly) (m : List Int) (a : Int) (q : Bool) : Ph → Prop
  | .id | .u0 | .un | .fu | .o0 | .on _ _ _ => True
  | .u1 b => b = bot m
  | .u2 b t => b = bot m ∧ 0 ≤ t ∧ t ≤ top m ∧ b - t ≤ sizeN (whi m)
  | .mv b r t ms => b = bot m ∧ r = whi m ∧ 0 ≤ t ∧ t ≤ top m ∧ b - t = sizeN r ∧ r + 1 < ringsN l.c.tasks ∧ ∃ k : Nat, t + k ≤ b ∧ ms = (movesOf l 0 r t b).drop k ∧ ∀ i : Int, t ≤ i → i < t + k → rc m (r + 1) i = rc m r i
  | .mx b r t mm ms x => b = bot m ∧ r = whi m ∧ 0 ≤ t ∧ t ≤ top m ∧ b - t = sizeN r ∧ r + 1 < ringsN l.c.tasks ∧ ∃ k : Nat, t + k < b ∧ mm :: ms = (movesOf l 0 r t b).drop k ∧ (∀ i : Int, t ≤ i → i < t + k → rc m (r + 1) i = rc m r i) ∧ x = rc m r (t + k)
  | .pt b t r => b = bot m ∧ r = whi m ∧ 0 ≤ t ∧ t ≤ top m ∧ b - t < sizeN r
  | .bt b t => b = bot m ∧ 0 ≤ t ∧ t ≤ top m ∧ b - t < sizeN (whi m) ∧ rc m (whi m) b = a
  | .o1 b => b = bot m
  | .o2 b => bot m = b - 1
  | .oe b => bot m = b - 1 ∧ top m = b
  | .o3 b t => bot m = b - 1 ∧ 0 ≤ t ∧ t ≤ top m ∧ t ≤ b - 1 ∧ (t < b - 1 → q = false)
  | .o4 b t r => bot m = b - 1 ∧ 0 ≤ t ∧ t ≤ top m ∧ t ≤ b - 1 ∧ (t < b - 1 → q = false) ∧ r = whi m
  | .o5 b x => bot m = b - 1 ∧ b - 1 ≤ top m ∧ 0 ≤ b - 1 ∧ x = rc m (whi m) (b - 1)
  | .o6 b x c => bot m = b - 1 ∧ top m = b ∧ q = true
  | _ => False
/-- What a thief knows: be is as far as it may get, f its first step. -/
def ThOk (l : Ly) (m : List Int) (be : Int) (f p : Nat) : Ph → Prop
  | .id | .s0 | .sn _ _ _ _ => True
  | .s1 t => 0 ≤ t ∧ t ≤ top m
  | .s2 t => 0 ≤ t ∧ t ≤ top m ∧ (top m = t → t < be ∧ (bot m ≤ t → f ≤ p))
  | .s3 t r => 0 ≤ t ∧ t ≤ top m ∧ 0 ≤ r ∧ r < ringsN l.c.tasks ∧ (top m = t → t < be ∧ (bot m ≤ t → f ≤ p) ∧ r ≤ whi m ∧ rc m r t = rc m (whi m) t)
  | .s4 t x => 0 ≤ t ∧ t ≤ top m ∧ (top m = t → t < be ∧ (bot m ≤ t → f ≤ p) ∧ x = rc m (whi m) t)
  | _ => False
structure CI (l : Ly) (sz : Nat) (m : List Int) (a : Int) (ph : Nat → Ph) (f : Nat → Nat) (p : Nat) (q : Bool) : Prop where
  ml : m.length = sz
  t0 : 0 ≤ top m
  b0 : 0 ≤ bot m + fli (ph 0)
  tb : top m ≤ beff m (ph 0) q
  r0 : 0 ≤ whi m ∧ whi m < ringsN l.c.tasks
  sz : bot m + fli (ph 0) - top m ≤ sizeN (whi m)
  qb : (ph 0).fl = true → q = true → bot m ≤ top m
  own : OwnOk l m a q (ph 0)
  th : ∀ k, k = 1 ∨ k = 2 → ThOk l m (beff m (ph 0) q) (f k) p (ph k)
/-! What a store turns. -/
theorem top_set {m : List Int} {c : Nat} {v : Int} (h : c < m.length) : top (m.set c v) = if (c : Int) = 19 then v else top m := by
  unfold top
  rw [cel_set h 19 (by omega)]
  simp only [eq_comm]
theorem bot_set {m : List Int} {c : Nat} {v : Int} (h : c < m.length) : bot (m.set c v) = if (c : Int) = 20 then v else bot m := by
  unfold bot
  rw [cel_set h 20 (by omega)]
  simp only [eq_comm]
theorem whi_set {m : List Int} {c : Nat} {v : Int} (h : c < m.length) : whi (m.set c v) = if (c : Int) = 21 then v else whi m := by
  unfold whi
  rw [cel_set h 21 (by omega)]
  simp only [eq_comm]
theorem rc_set {m : List Int} {c : Nat} {v : Int} (h : c < m.length) {r : Int} (h0 : 0 ≤ r) (h1 : r < 3) (i : Int) : rc (m.set c v) r i = if (c : Int) = plc r i then v else rc m r i := by
  unfold rc
  rw [cel_set h _ (by have := plc_in h0 h1 i; omega)]
  simp only [eq_comm]
theorem rings3 {l : Ly} {sz : Nat} (ly : DLay l sz) : 1 ≤ ringsN l.c.tasks ∧ ringsN l.c.tasks ≤ 3 := by
  rcases rings_cases ly.tk.1 ly.tk.2 with ⟨e, _⟩ | ⟨e, _⟩ | ⟨e, _⟩ <;> omega
/-- Stores into 19, 20, 21, and into a ring's cell. -/
structure Same (m m' : List Int) : Prop where
  len : m'.length = m.length
  rc : ∀ r i : Int, 0 ≤ r → r < 3 → rc m' r i = rc m r i
theorem same_low {m : List Int} {c : Nat} {v : Int} (h : c < m.length) (hc : c < 28) : Same m (m.set c v) :=
  ⟨by simp, fun r i h0 h1 => by rw [rc_set h h0 h1, if_neg (by have := plc_in h0 h1 i; omega)]⟩
theorem ring_set {m : List Int} {r i v : Int} (h0 : 0 ≤ r) (h1 : r < 3) (h : plc r i < m.length) : (m.set (plc r i).toNat v).length = m.length ∧ top (m.set (plc r i).toNat v) = top m ∧ bot (m.set (plc r i).toNat v) = bot m ∧ whi (m.set (plc r i).toNat v) = whi m
    ∧ ∀ r' i' : Int, 0 ≤ r' → r' < 3 → rc (m.set (plc r i).toNat v) r' i' = if plc r i = plc r' i' then v else rc m r' i' := by
  have hp := plc_in h0 h1 i
  have hl : (plc r i).toNat < m.length := by omega
  have hc : (((plc r i).toNat : Nat) : Int) = plc r i := by omega
  refine ⟨by simp, ?_, ?_, ?_, fun r' i' h2 h3 => ?_⟩
  · rw [top_set hl, hc, if_neg (by omega)]
  · rw [bot_set hl, hc, if_neg (by omega)]
  · rw [whi_set hl, hc, if_neg (by omega)]
  · rw [rc_set hl h2 h3, hc]
theorem top_st {m : List Int} {v : Int} (h : 28 ≤ m.length) : top (m.set 19 v) = v ∧ bot (m.set 19 v) = bot m ∧ whi (m.set 19 v) = whi m := by
  refine ⟨?_, ?_, ?_⟩
  · rw [top_set (by omega)]; rfl
  · rw [bot_set (by omega), if_neg (by omega)]
  · rw [whi_set (by omega), if_neg (by omega)]
theorem bot_st {m : List Int} {v : Int} (h : 28 ≤ m.length) : top (m.set 20 v) = top m ∧ bot (m.set 20 v) = v ∧ whi (m.set 20 v) = whi m := by
  refine ⟨?_, ?_, ?_⟩
  · rw [top_set (by omega), if_neg (by omega)]
  · rw [bot_set (by omega)]; rfl
  · rw [whi_set (by omega), if_neg (by omega)]
theorem whi_st {m : List Int} {v : Int} (h : 28 ≤ m.length) : top (m.set 21 v) = top m ∧ bot (m.set 21 v) = bot m ∧ whi (m.set 21 v) = v := by
  refine ⟨?_, ?_, ?_⟩
  · rw [top_set (by omega), if_neg (by omega)]
  · rw [bot_set (by omega), if_neg (by omega)]
  · rw [whi_set (by omega)]; rfl

/-- What is moved, one by one. -/
theorem moves_drop {l : Ly} {sz : Nat} (ly : DLay l sz) {r t b : Int} (h0 : 0 ≤ r) (h1 : r + 1 < ringsN l.c.tasks) (ht : 0 ≤ t) (hb : b - t = sizeN r) (k : Nat) (hk : t + k ≤ b) :
    (movesOf l 0 r t b).drop k = if t + k < b then (plc r (t + k), plc (r + 1) (t + k)) :: (movesOf l 0 r t b).drop (k + 1) else [] := by
  have hr3 := rings3 ly
  have hp : ∀ r', 0 ≤ r' → r' < ringsN l.c.tasks → ringAt l 0 r' ≠ -1 := by
    intro r' g0 g1
    rw [ringAt_eq l 0 r' ⟨g0, g1, by omega, by rw [ly.st]; omega⟩]
    have := aheadN_in r'
    have := aheadN_in (ringsN l.c.tasks)
    have := ly.rg
    omega
  have hsz := sizeN_in r
  have he : movesOf l 0 r t b = (List.range (b - t).toNat).map (moveAt l 0 r t) := by
    unfold movesOf
    rw [if_pos ⟨hp r h0 (by omega), by simp [fitsB]; omega, hp (r + 1) (by omega) h1⟩]
  rw [he]
  split
  · rename_i h
    rw [List.drop_eq_getElem_cons (by simp; omega)]
    congr 1
    rw [List.getElem_map, List.getElem_range]
    unfold moveAt
    rw [place_eq ly h0 (by omega) (by omega), place_eq ly (by omega) h1 (by omega)]
  · exact List.drop_eq_nil_of_le (by simp; omega)
end Go.Proofs.Ytdjglkpcdhkodaa
