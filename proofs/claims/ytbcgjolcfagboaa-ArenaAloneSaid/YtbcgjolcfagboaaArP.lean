/- The arena's plain law: what holds behind every turn of a play. No program in sight. -/
import Derived.Test.YtbcgjolcfagboaaArM
namespace Go.Proofs.Ytbcgjolcfagboaa
open Go.RowKit
set_option linter.unusedVariables false

/-- Where an operation is. -/
inductive Ph
  | t0 | t1 (x : Int) | t2 (x y : Int) | t3 (x : Int) | t4 (x u : Int) | t5 (x : Int) | tz
  | g0 | g1 (x : Int) | g2 (x : Int) | g3 | no
def tPh : Log → Ph
  | [] => .t0
  | x :: r => if idxOf x.1 = 0 then .tz else match r with
    | [] => .t1 x.1
    | [y] => .t2 x.1 y.1
    | y :: z :: r3 => if z.2 then (match r3 with
        | [] => .t3 x.1
        | [u] => .t4 x.1 u.1
        | _ :: _ :: _ => .t5 x.1) else tPh r3
def gPh : Log → Ph
  | [] => .g0
  | [x] => .g1 x.1
  | [x, _] => .g2 x.1
  | x :: _ :: z :: r3 => if z.2 then .g3 else gPh r3
/-- Where it is with one result more. -/
def Ph.add (r : Int × Bool) : Ph → Ph
  | .t0 => if idxOf r.1 = 0 then .tz else .t1 r.1
  | .t1 x => .t2 x r.1
  | .t2 x y => if r.2 then .t3 x else .t0
  | .t3 x => .t4 x r.1
  | .t4 x u => .t5 x
  | .g0 => .g1 r.1
  | .g1 x => .g2 x
  | .g2 x => if r.2 then .g3 else .g0
  | p => p
theorem tPh_add (r : Int × Bool) : ∀ log : Log, tPh (log ++ [r]) = (tPh log).add r := by
  intro log
  fun_induction tPh log with
  | case1 => simp [tPh, Ph.add]
  | case2 x r' h => rw [List.cons_append, tPh.eq_def]; simp [Ph.add, h]
  | case3 x h => simp [tPh, Ph.add, h]
  | case4 x h y => simp [tPh, Ph.add, h]
  | case5 x h y z hz => simp [tPh, Ph.add, h, hz]
  | case6 x h y z hz u => simp [tPh, Ph.add, h, hz]
  | case7 x h y z hz u v r3 => simp [tPh, Ph.add, h, hz]
  | case8 x h y z r3 hz ih =>
    rw [← ih]
    simp [tPh, h, hz]
theorem gPh_add (r : Int × Bool) : ∀ log : Log, gPh (log ++ [r]) = (gPh log).add r := by
  intro log
  fun_induction gPh log with
  | case1 => simp [gPh, Ph.add]
  | case2 x => simp [gPh, Ph.add]
  | case3 x y => simp [gPh, Ph.add]
  | case4 x y z r3 hz => simp [gPh, Ph.add, hz]
  | case5 x y z r3 hz ih =>
    rw [← ih]
    simp [gPh, hz]
/-- What is next there. -/
def Ph.ans (l : Ly) (a pt : Int) : Ph → Ans
  | .t0 => .ask 1 l.free 0 0
  | .t1 x => .ask 1 (nodeAt l (idxOf x) 7) 0 0
  | .t2 x y => .ask 3 l.free x (turnW x y)
  | .t3 x => .ask 1 l.era 0 0
  | .t4 x u => .ask 2 (nodeAt l (idxOf x) 6) 0 u
  | .t5 x => .out (idxOf x) true 0 pt
  | .tz => .out 0 false 8 pt
  | .g0 => .ask 1 l.free 0 0
  | .g1 x => .ask 2 (nodeAt l a 7) 0 (idxOf x)
  | .g2 x => .ask 3 l.free x (turnW x a)
  | .g3 => .out 0 true 0 pt
  | .no => .out 0 false 1 (-1)
theorem take_ans (l : Ly) (a : Int) : ∀ (log : Log) (i : Nat), ∃ pt, takeM l i log = (tPh log).ans l a pt := by
  intro log
  fun_induction tPh log with
  | case1 => intro i; exact ⟨0, rfl⟩
  | case2 x r h => intro i; exact ⟨i, by rw [takeM.eq_def]; dsimp only; rw [if_pos h]; rfl⟩
  | case3 x h => intro i; exact ⟨i, by rw [takeM.eq_def]; dsimp only; rw [if_neg h]; rfl⟩
  | case4 x h y => intro i; exact ⟨i, by rw [takeM.eq_def]; dsimp only; rw [if_neg h]; rfl⟩
  | case5 x h y z hz => intro i; exact ⟨i, by rw [takeM.eq_def]; dsimp only; rw [if_neg h, if_pos hz]; rfl⟩
  | case6 x h y z hz u => intro i; exact ⟨i, by rw [takeM.eq_def]; dsimp only; rw [if_neg h, if_pos hz]; rfl⟩
  | case7 x h y z hz u v r3 => intro i; exact ⟨i + 2, by rw [takeM.eq_def]; dsimp only; rw [if_neg h, if_pos hz]; rfl⟩
  | case8 x h y z r3 hz ih =>
    intro i
    obtain ⟨pt, e⟩ := ih (i + 3)
    exact ⟨pt, by rw [takeM.eq_def]; dsimp only; rw [if_neg h, if_neg hz]; exact e⟩
theorem give_ans (l : Ly) (a : Int) : ∀ (log : Log) (i : Nat), ∃ pt, giveM l a i log = (gPh log).ans l a pt := by
  intro log
  fun_induction gPh log with
  | case1 => intro i; exact ⟨0, rfl⟩
  | case2 x => intro i; exact ⟨0, rfl⟩
  | case3 x y => intro i; exact ⟨0, rfl⟩
  | case4 x y z r3 hz => intro i; exact ⟨i + 2, by rw [giveM, if_pos hz]; rfl⟩
  | case5 x y z r3 hz ih =>
    intro i
    obtain ⟨pt, e⟩ := ih (i + 3)
    exact ⟨pt, by rw [giveM, if_neg hz]; exact e⟩
def phOf (op : Opr) (log : Log) : Ph := if op.kind = 1 then tPh log else if op.kind = 2 then gPh log else .no
def SeatA.ph (s : SeatA) : Ph := phOf s.op s.log
theorem next_ans (l : Ly) (op : Opr) (log : Log) : ∃ pt, nextR l op log = (phOf op log).ans l op.a pt := by
  unfold nextR phOf
  split
  · exact take_ans l op.a log 0
  · split
    · exact give_ans l op.a log 0
    · exact ⟨0, rfl⟩
theorem phOf_add (op : Opr) (log : Log) (r : Int × Bool) : phOf op (log ++ [r]) = (phOf op log).add r := by
  unfold phOf
  split
  · exact tPh_add r log
  · split
    · exact gPh_add r log
    · rfl
/-- A take's phases, a give's phases. -/
def Ph.isT : Ph → Bool | .t0 | .t1 _ | .t2 _ _ | .t3 _ | .t4 _ _ | .t5 _ | .tz => true | _ => false
def Ph.isG : Ph → Bool | .g0 | .g1 _ | .g2 _ | .g3 => true | _ => false
theorem tPh_isT (log : Log) : (tPh log).isT = true := by
  fun_induction tPh log <;> first | rfl | assumption
theorem gPh_isG (log : Log) : (gPh log).isG = true := by
  fun_induction gPh log <;> first | rfl | assumption
theorem kind_t {op : Opr} {log : Log} (h : (phOf op log).isT = true) : op.kind = 1 := by
  unfold phOf at h
  split at h
  · assumption
  · split at h
    · have := gPh_isG log
      cases e : gPh log <;> rw [e] at h this <;> simp [Ph.isT, Ph.isG] at h this
    · cases h
theorem kind_g {op : Opr} {log : Log} (h : (phOf op log).isG = true) : op.kind = 2 := by
  unfold phOf at h
  split at h
  · have := tPh_isT log
    cases e : tPh log <;> rw [e] at h this <;> simp [Ph.isT, Ph.isG] at h this
  · split at h
    · assumption
    · cases h
theorem kind_no {op : Opr} {log : Log} (h : phOf op log = .no) (hk : op.kind = 0 ∨ op.kind = 1 ∨ op.kind = 2) : op.kind = 0 := by
  unfold phOf at h
  split at h
  · have := tPh_isT log
    rw [h] at this
    cases this
  · split at h
    · have := gPh_isG log
      rw [h] at this
      cases this
    · omega

/-- The layout of a play. -/
structure ALay (l : Ly) (sz : Nat) : Prop where
  nn : 1 ≤ l.c.nodes ∧ l.c.nodes ≤ 6
  fr : 0 ≤ l.free ∧ l.free < l.node
  er : 0 ≤ l.era ∧ l.era < l.node ∧ l.era ≠ l.free
  nd : l.node + l.c.nodes * 8 ≤ sz ∧ sz ≤ 1000
theorem nodeAt_of (l : Ly) {a b : Int} (h : 1 ≤ a ∧ a ≤ l.c.nodes) (hb : 0 ≤ b ∧ b < 8) : nodeAt l a b = l.node + (a - 1) * 8 + b := by
  unfold nodeAt withinN
  rw [if_neg (by omega), if_pos (by omega)]
/-- The word of the list's head, and a node's link. -/
def freeOf (l : Ly) (m : List Int) : Int := m.getD l.free.toNat 0
def linkOf (l : Ly) (m : List Int) (a : Int) : Int := m.getD (nodeAt l a 7).toNat 0
def Chain (k : Int → Int) : List Int → Prop
  | [] => True
  | a :: r => k a = r.headD 0 ∧ Chain k r
theorem Chain.congr {k k' : Int → Int} : ∀ {L : List Int}, Chain k L → (∀ a ∈ L, k' a = k a) → Chain k' L
  | [], _, _ => trivial
  | a :: r, h, e => ⟨(e a (by simp)).trans h.1, Chain.congr h.2 fun b hb => e b (by simp [hb])⟩
/-- What a seat has, what it had when it was told, and what it holds in all. -/
def Ph.gv (a : Int) : Ph → List Int | .g0 | .g1 _ | .g2 _ => [a] | _ => []
def Ph.md : Ph → List Int | .t3 x | .t4 x _ | .t5 x => [idxOf x] | _ => []
def SeatA.gives (s : SeatA) : List Int := s.ph.gv s.op.a
def SeatA.mid (s : SeatA) : List Int := s.ph.md
def sumc (f : SeatA → List Int) (v : Int) : List SeatA → Nat
  | [] => 0
  | s :: r => (f s).count v + sumc f v r
theorem sumc_set (f : SeatA → List Int) (v : Int) (s' : SeatA) : ∀ (ss : List SeatA) (k : Nat) (s : SeatA), ss[k]? = some s → sumc f v (ss.set k s') + (f s).count v = sumc f v ss + (f s').count v := by
  intro ss
  induction ss with
  | nil => intro k s h; simp at h
  | cons a r ih =>
    intro k s h
    cases k with
    | zero => simp at h; subst h; simp [sumc]; omega
    | succ k => simp at h; have := ih k s h; simp [sumc]; omega
theorem sumc_le (f : SeatA → List Int) (v : Int) : ∀ (ss : List SeatA) (k : Nat) (s : SeatA), ss[k]? = some s → (f s).count v ≤ sumc f v ss := by
  intro ss
  induction ss with
  | nil => intro k s h; simp at h
  | cons a r ih =>
    intro k s h
    cases k with
    | zero => simp at h; subst h; simp [sumc]
    | succ k => simp at h; have := ih k s h; simp [sumc]; omega
theorem sumc_two (f : SeatA → List Int) (v : Int) : ∀ (ss : List SeatA) (k j : Nat) (s u : SeatA), k ≠ j → ss[k]? = some s → ss[j]? = some u → (f s).count v + (f u).count v ≤ sumc f v ss := by
  intro ss
  induction ss with
  | nil => intro k j s u _ h; simp at h
  | cons a r ih =>
    intro k j s u hne h1 h2
    cases k with
    | zero =>
      simp at h1
      subst h1
      cases j with
      | zero => exact absurd rfl hne
      | succ j => simp at h2; have := sumc_le f v r j u h2; simp [sumc]; omega
    | succ k =>
      simp at h1
      cases j with
      | zero => simp at h2; subst h2; have := sumc_le f v r k s h1; simp [sumc]; omega
      | succ j => simp at h2; have := ih k j s u (by omega) h1 h2; simp [sumc]; omega
theorem sumc_mono (f g : SeatA → List Int) (v : Int) (h : ∀ s, (f s).count v ≤ (g s).count v) : ∀ ss, sumc f v ss ≤ sumc g v ss := by
  intro ss
  induction ss with
  | nil => exact Nat.le_refl _
  | cons a r ih => simp only [sumc]; have := h a; omega
def SeatA.hads (s : SeatA) : List Int := s.has ++ s.gives
def SeatA.own (s : SeatA) : List Int := s.has ++ s.gives ++ s.mid

/-- What a seat in the midst of an operation knows. -/
def PhOk (l : Ly) (m : List Int) (went : Nat) (a : Int) : Ph → Prop
  | .t1 x => (1 ≤ idxOf x ∧ idxOf x ≤ l.c.nodes) ∧ cntOf x ≤ went ∧ (cntOf x = went → x = freeOf l m)
  | .t2 x y => (1 ≤ idxOf x ∧ idxOf x ≤ l.c.nodes) ∧ (0 ≤ y ∧ y ≤ l.c.nodes) ∧ cntOf x ≤ went ∧ (cntOf x = went → x = freeOf l m ∧ y = linkOf l m (idxOf x))
  | .t3 x | .t4 x _ | .t5 x => 1 ≤ idxOf x ∧ idxOf x ≤ l.c.nodes
  | .g0 => 1 ≤ a ∧ a ≤ l.c.nodes
  | .g1 x => (1 ≤ a ∧ a ≤ l.c.nodes) ∧ (0 ≤ idxOf x ∧ idxOf x ≤ l.c.nodes) ∧ cntOf x ≤ went ∧ (cntOf x = went → x = freeOf l m)
  | .g2 x => (1 ≤ a ∧ a ≤ l.c.nodes) ∧ (0 ≤ idxOf x ∧ idxOf x ≤ l.c.nodes) ∧ cntOf x ≤ went ∧ (cntOf x = went → x = freeOf l m) ∧ linkOf l m a = idxOf x
  | _ => True
structure SeatOk (l : Ly) (m : List Int) (went : Nat) (s : SeatA) : Prop where
  kind : s.op.kind = 0 ∨ s.op.kind = 1 ∨ s.op.kind = 2
  at_ : PhOk l m went s.op.a s.ph
  a6 : s.op.a ≤ 6
/-- What holds behind every turn. -/
structure AI (l : Ly) (sz : Nat) (t : TabA) (L : List Int) (went : Nat) : Prop where
  ml : t.m.length = sz
  fr : freeOf l t.m = packI (L.headD 0) false went
  chain : Chain (linkOf l t.m) L
  tot : ∀ v, L.count v + sumc SeatA.own v t.seats = if 1 ≤ v ∧ v ≤ l.c.nodes then 1 else 0
  links : ∀ a, 1 ≤ a ∧ a ≤ l.c.nodes → 0 ≤ linkOf l t.m a ∧ linkOf l t.m a ≤ l.c.nodes
  seat : ∀ s ∈ t.seats, SeatOk l t.m went s
theorem AI.upd {l : Ly} {sz : Nat} {t : TabA} {L : List Int} {went : Nat} (h : AI l sz t L went) {who : Nat} {s s' : SeatA} (hs : t.seats[who]? = some s) {m' : List Int} {L' : List Int} {went' : Nat}
    (ml : m'.length = sz) (fr : freeOf l m' = packI (L'.headD 0) false went') (chain : Chain (linkOf l m') L') (cs : ∀ v, L'.count v + s'.own.count v = L.count v + s.own.count v)
    (links : ∀ a, 1 ≤ a ∧ a ≤ l.c.nodes → 0 ≤ linkOf l m' a ∧ linkOf l m' a ≤ l.c.nodes) (ok : SeatOk l m' went' s')
    (others : ∀ (j : Nat) (u : SeatA), j ≠ who → t.seats[j]? = some u → PhOk l t.m went u.op.a u.ph → PhOk l m' went' u.op.a u.ph) : AI l sz ⟨m', t.seats.set who s'⟩ L' went' := by
  have hw := (List.getElem?_eq_some_iff.1 hs).1
  refine ⟨ml, fr, chain, fun v => ?_, links, fun u hu => ?_⟩
  · have h1 := h.tot v
    have h2 := sumc_set SeatA.own v s' t.seats who s hs
    have h3 := cs v
    dsimp only
    omega
  · obtain ⟨j, hj⟩ := List.getElem?_of_mem hu
    dsimp only at hj
    by_cases e : j = who
    · subst e
      rw [List.getElem?_set_self hw] at hj
      injection hj with hj
      subst hj
      exact ok
    · rw [List.getElem?_set_ne (fun e' => e e'.symm)] at hj
      have hu' := h.seat u (List.mem_of_getElem? hj)
      exact ⟨hu'.kind, others j u e hj hu'.at_, hu'.a6⟩
theorem idx_pack {i : Int} {c : Nat} (h0 : 0 ≤ i) (h1 : i ≤ 6) (hc : c < 268435456) : idxOf (packI i false c) = i ∧ cntOf (packI i false c) = c := by
  simp only [idxOf, cntOf, packI, Bool.false_eq_true, if_false]
  omega
theorem turnW_pack {i y : Int} {c : Nat} {x : Int} (hx : x = packI i false c) (h0 : 0 ≤ i) (h1 : i ≤ 6) (hc : c + 1 < 268435456) (hy0 : 0 ≤ y) (hy1 : y ≤ 6) : turnW x y = packI y false (c + 1 : Nat) := by
  have hcn := (idx_pack (c := c) h0 h1 (by omega)).2
  subst hx
  unfold turnW
  rw [hcn]
  simp only [packI, Bool.false_eq_true, if_false]
  omega
theorem AI.head {l : Ly} {sz : Nat} {t : TabA} {L : List Int} {went : Nat} (h : AI l sz t L went) (ly : ALay l sz) : 0 ≤ L.headD 0 ∧ L.headD 0 ≤ l.c.nodes := by
  have h6 := ly.nn
  cases L with
  | nil => simp; omega
  | cons a r =>
    have := h.tot a
    simp only [List.count_cons_self, List.headD_cons] at *
    split at this <;> omega
theorem AI.idx {l : Ly} {sz : Nat} {t : TabA} {L : List Int} {went : Nat} (h : AI l sz t L went) (ly : ALay l sz) (hw : went < 268435456) : idxOf (freeOf l t.m) = L.headD 0 ∧ cntOf (freeOf l t.m) = went := by
  have h1 := h.head ly
  have h6 := ly.nn
  rw [h.fr]
  exact idx_pack h1.1 (by omega) hw
theorem own_range {l : Ly} {sz : Nat} {t : TabA} {L : List Int} {went : Nat} (h : AI l sz t L went) {who : Nat} {s : SeatA} (hs : t.seats[who]? = some s) {v : Int} (hv : v ∈ s.own) : 1 ≤ v ∧ v ≤ l.c.nodes := by
  have h1 := h.tot v
  have h2 := sumc_le SeatA.own v t.seats who s hs
  have h3 := List.count_pos_iff.2 hv
  split at h1
  · assumption
  · omega
theorem set_at {m : List Int} {c : Nat} {v : Int} (h : c < m.length) (d : Nat) : (m.set c v).getD d 0 = if d = c then v else m.getD d 0 := by
  simp only [List.getD_eq_getElem?_getD]
  by_cases e : d = c
  · subst e; rw [if_pos rfl, List.getElem?_set_self h]; rfl
  · rw [if_neg e, List.getElem?_set_ne (fun e' => e e'.symm)]
theorem set_same {m : List Int} {c : Nat} : m.set c (m.getD c 0) = m := by
  apply List.ext_getElem?
  intro j
  by_cases e : j = c
  · subst e
    by_cases hj : j < m.length
    · rw [List.getElem?_set_self hj, List.getD_eq_getElem?_getD, List.getElem?_eq_getElem hj]; rfl
    · rw [List.getElem?_eq_none (by simp; omega), List.getElem?_eq_none (by omega)]
  · rw [List.getElem?_set_ne (fun e' => e e'.symm)]
end Go.Proofs.Ytbcgjolcfagboaa
