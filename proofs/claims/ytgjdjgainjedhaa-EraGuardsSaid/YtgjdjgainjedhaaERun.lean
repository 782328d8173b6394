/- Where a program of the arena is; what is asked there. No program in sight. The eras' plain law: where a seat is, what it holds, what holds behind every turn. No program in sight. The eras' plain law: an access, and what is told, keep what holds. No program in sight. The eras' plain law: what is retired, sifted, given back; guards; what is told. No program in sight. The eras' plain law: each access, and each telling, keeps what holds, and is nearer to the end. No program in sight. The eras' plain law: a seat's step, as the table has it. No program in sight. The eras' plain law: all turns of a play; each seat ends; what is safe, and what there is in the end. No program in sight. -/
import Derived.Test.YtgjdjgainjedhaaEaM
namespace Go.Proofs.Ytgjdjgainjedhaa
open Go.RowKit
set_option linter.unusedVariables false

/-- Where an operation is. -/
inductive Ph
  | t0 | t1 (x : Int) | t2 (x y : Int) | t3 (x : Int) | t4 (x u : Int) | t5 (x : Int) | tz
  | g0 | g1 (x : Int) | g2 (x : Int) | g3 | no
def tPh : Log → Ph
  | [] => .t0
  | x :: r => if idxOf x.1 = 0 then .tz else match r with
    | [] => .t1 x.1
    | [y] => .t2 x.1 y.1
    | y :: z :: r3 => if z.2 then (match r3 with
        | [] => .t3 x.1
        | [u] => .t4 x.1 u.1
        | _ :: _ :: _ => .t5 x.1) else tPh r3
def gPh : Log → Ph
  | [] => .g0
  | [x] => .g1 x.1
  | [x, _] => .g2 x.1
  | x :: _ :: z :: r3 => if z.2 then .g3 else gPh r3
/-- Where it is with one result more. -/
def Ph.add (r : Int × Bool) : Ph → Ph
  | .t0 => if idxOf r.1 = 0 then .tz else .t1 r.1
  | .t1 x => .t2 x r.1
  | .t2 x y => if r.2 then .t3 x else .t0
  | .t3 x => .t4 x r.1
  | .t4 x u => .t5 x
  | .g0 => .g1 r.1
  | .g1 x => .g2 x
  | .g2 x => if r.2 then .g3 else .g0
  | p => p
theorem tPh_add (r : Int × Bool) : ∀ log : Log, tPh (log ++ [r]) = (tPh log).add r := by
  intro log
  fun_induction tPh log with
  | case1 => simp [tPh, Ph.add]
  | case2 x r' h => rw [List.cons_append, tPh.eq_def]; simp [Ph.add, h]
  | case3 x h => simp [tPh, Ph.add, h]
  | case4 x h y => simp [tPh, Ph.add, h]
  | case5 x h y z hz => simp [tPh, Ph.add, h, hz]
  | case6 x h y z hz u => simp [tPh, Ph.add, h, hz]
  | case7 x h y z hz u v r3 => simp [tPh, Ph.add, h, hz]
  | case8 x h y z r3 hz ih =>
    rw [← ih]
    simp [tPh, h, hz]
theorem gPh_add (r : Int × Bool) : ∀ log : Log, gPh (log ++ [r]) = (gPh log).add r := by
  intro log
  fun_induction gPh log with
  | case1 => simp [gPh, Ph.add]
  | case2 x => simp [gPh, Ph.add]
  | case3 x y => simp [gPh, Ph.add]
  | case4 x y z r3 hz => simp [gPh, Ph.add, hz]
  | case5 x y z r3 hz ih =>
    rw [← ih]
    simp [gPh, hz]
/-- What is next there. -/
def Ph.ans (l : Ly) (a pt : Int) : Ph → Ans
  | .t0 => .ask 1 l.free 0 0
  | .t1 x => .ask 1 (nodeAt l (idxOf x) 7) 0 0
  | .t2 x y => .ask 3 l.free x (turnW x y)
  | .t3 x => .ask 1 l.era 0 0
  | .t4 x u => .ask 2 (nodeAt l (idxOf x) 6) 0 u
  | .t5 x => .out (idxOf x) true 0 pt
  | .tz => .out 0 false 8 pt
  | .g0 => .ask 1 l.free 0 0
  | .g1 x => .ask 2 (nodeAt l a 7) 0 (idxOf x)
  | .g2 x => .ask 3 l.free x (turnW x a)
  | .g3 => .out 0 true 0 pt
  | .no => .out 0 false 1 (-1)
theorem take_ans (l : Ly) (a : Int) : ∀ (log : Log) (i : Nat), ∃ pt, takeM l i log = (tPh log).ans l a pt := by
  intro log
  fun_induction tPh log with
  | case1 => intro i; exact ⟨0, rfl⟩
  | case2 x r h => intro i; exact ⟨i, by rw [takeM.eq_def]; dsimp only; rw [if_pos h]; rfl⟩
  | case3 x h => intro i; exact ⟨i, by rw [takeM.eq_def]; dsimp only; rw [if_neg h]; rfl⟩
  | case4 x h y => intro i; exact ⟨i, by rw [takeM.eq_def]; dsimp only; rw [if_neg h]; rfl⟩
  | case5 x h y z hz => intro i; exact ⟨i, by rw [takeM.eq_def]; dsimp only; rw [if_neg h, if_pos hz]; rfl⟩
  | case6 x h y z hz u => intro i; exact ⟨i, by rw [takeM.eq_def]; dsimp only; rw [if_neg h, if_pos hz]; rfl⟩
  | case7 x h y z hz u v r3 => intro i; exact ⟨i + 2, by rw [takeM.eq_def]; dsimp only; rw [if_neg h, if_pos hz]; rfl⟩
  | case8 x h y z r3 hz ih =>
    intro i
    obtain ⟨pt, e⟩ := ih (i + 3)
    exact ⟨pt, by rw [takeM.eq_def]; dsimp only; rw [if_neg h, if_neg hz]; exact e⟩
theorem give_ans (l : Ly) (a : Int) : ∀ (log : Log) (i : Nat), ∃ pt, giveM l a i log = (gPh log).ans l a pt := by
  intro log
  fun_induction gPh log with
  | case1 => intro i; exact ⟨0, rfl⟩
  | case2 x => intro i; exact ⟨0, rfl⟩
  | case3 x y => intro i; exact ⟨0, rfl⟩
  | case4 x y z r3 hz => intro i; exact ⟨i + 2, by rw [giveM, if_pos hz]; rfl⟩
  | case5 x y z r3 hz ih =>
    intro i
    obtain ⟨pt, e⟩ := ih (i + 3)
    exact ⟨pt, by rw [giveM, if_neg hz]; exact e⟩
/-- A take's phases, a give's phases. -/
def Ph.isT : Ph → Bool | .t0 | .t1 _ | .t2 _ _ | .t3 _ | .t4 _ _ | .t5 _ | .tz => true | _ => false
def Ph.isG : Ph → Bool | .g0 | .g1 _ | .g2 _ | .g3 => true | _ => false
theorem tPh_isT (log : Log) : (tPh log).isT = true := by
  fun_induction tPh log <;> first | rfl | assumption
theorem gPh_isG (log : Log) : (gPh log).isG = true := by
  fun_induction gPh log <;> first | rfl | assumption
theorem nodeAt_of (l : Ly) {a b : Int} (h : 1 ≤ a ∧ a ≤ l.c.nodes) (hb : 0 ≤ b ∧ b < 8) : nodeAt l a b = l.node + (a - 1) * 8 + b := by
  unfold nodeAt withinN
  rw [if_neg (by omega), if_pos (by omega)]
/-- The word of the list's head, and a node's link. -/
def freeOf (l : Ly) (m : List Int) : Int := m.getD l.free.toNat 0
def linkOf (l : Ly) (m : List Int) (a : Int) : Int := m.getD (nodeAt l a 7).toNat 0
def Chain (k : Int → Int) : List Int → Prop
  | [] => True
  | a :: r => k a = r.headD 0 ∧ Chain k r
theorem Chain.congr {k k' : Int → Int} : ∀ {L : List Int}, Chain k L → (∀ a ∈ L, k' a = k a) → Chain k' L
  | [], _, _ => trivial
  | a :: r, h, e => ⟨(e a (by simp)).trans h.1, Chain.congr h.2 fun b hb => e b (by simp [hb])⟩
def Ph.md : Ph → List Int | .t3 x | .t4 x _ | .t5 x => [idxOf x] | _ => []
/-- What a seat in the midst of an operation knows. -/
def PhOk (l : Ly) (m : List Int) (went : Nat) (a : Int) : Ph → Prop
  | .t1 x => (1 ≤ idxOf x ∧ idxOf x ≤ l.c.nodes) ∧ cntOf x ≤ went ∧ (cntOf x = went → x = freeOf l m)
  | .t2 x y => (1 ≤ idxOf x ∧ idxOf x ≤ l.c.nodes) ∧ (0 ≤ y ∧ y ≤ l.c.nodes) ∧ cntOf x ≤ went ∧ (cntOf x = went → x = freeOf l m ∧ y = linkOf l m (idxOf x))
  | .t3 x | .t4 x _ | .t5 x => 1 ≤ idxOf x ∧ idxOf x ≤ l.c.nodes
  | .g0 => 1 ≤ a ∧ a ≤ l.c.nodes
  | .g1 x => (1 ≤ a ∧ a ≤ l.c.nodes) ∧ (0 ≤ idxOf x ∧ idxOf x ≤ l.c.nodes) ∧ cntOf x ≤ went ∧ (cntOf x = went → x = freeOf l m)
  | .g2 x => (1 ≤ a ∧ a ≤ l.c.nodes) ∧ (0 ≤ idxOf x ∧ idxOf x ≤ l.c.nodes) ∧ cntOf x ≤ went ∧ (cntOf x = went → x = freeOf l m) ∧ linkOf l m a = idxOf x
  | _ => True
theorem set_at {m : List Int} {c : Nat} {v : Int} (h : c < m.length) (d : Nat) : (m.set c v).getD d 0 = if d = c then v else m.getD d 0 := by
  simp only [List.getD_eq_getElem?_getD]
  by_cases e : d = c
  · subst e; rw [if_pos rfl, List.getElem?_set_self h]; rfl
  · rw [if_neg e, List.getElem?_set_ne (fun e' => e e'.symm)]
theorem set_same {m : List Int} {c : Nat} : m.set c (m.getD c 0) = m := by
  apply List.ext_getElem?
  intro j
  by_cases e : j = c
  · subst e
    by_cases hj : j < m.length
    · rw [List.getElem?_set_self hj, List.getD_eq_getElem?_getD, List.getElem?_eq_getElem hj]; rfl
    · rw [List.getElem?_eq_none (by simp; omega), List.getElem?_eq_none (by omega)]
  · rw [List.getElem?_set_ne (fun e' => e e'.symm)]
/-- A load: memory stays. -/
theorem acc_load {c : Int} {m : List Int} : (⟨1, c, 0, 0⟩ : Acc).make m = m ∧ (⟨1, c, 0, 0⟩ : Acc).ok ((⟨1, c, 0, 0⟩ : Acc).had m) = true ∧ (⟨1, c, 0, 0⟩ : Acc).had m = m.getD c.toNat 0 := by
  refine ⟨?_, rfl, rfl⟩
  simp only [Acc.make, Acc.next, if_true, Acc.had]
  exact set_same
theorem acc_store {c v : Int} {m : List Int} : (⟨2, c, 0, v⟩ : Acc).make m = m.set c.toNat v ∧ (⟨2, c, 0, v⟩ : Acc).ok ((⟨2, c, 0, v⟩ : Acc).had m) = true := ⟨by simp [Acc.make, Acc.next], rfl⟩
theorem acc_err {k c o v : Int} {m : Nat} (hc : 0 ≤ c ∧ c < m) (h : (k = 1 ∧ v = 0 ∧ o = 0) ∨ (k = 2 ∧ o = 0) ∨ k = 3) : (⟨k, c, o, v⟩ : Acc).err m = 0 := by
  have h1 : (⟨k, c, o, v⟩ : Acc).right = true := by
    rcases h with ⟨rfl, rfl, rfl⟩ | ⟨rfl, rfl⟩ | rfl <;> simp [Acc.right, hc.1]
  unfold Acc.err
  rw [if_pos h1, if_pos hc.2]
theorem acc_cas {c o v : Int} {m : List Int} : (⟨3, c, o, v⟩ : Acc).had m = m.getD c.toNat 0 ∧ (⟨3, c, o, v⟩ : Acc).ok (m.getD c.toNat 0) = decide (m.getD c.toNat 0 = o) ∧ (⟨3, c, o, v⟩ : Acc).make m = if m.getD c.toNat 0 = o then m.set c.toNat v else m := by
  have e1 : (⟨3, c, o, v⟩ : Acc).had m = m.getD c.toNat 0 := rfl
  have e2 : (⟨3, c, o, v⟩ : Acc).make m = m.set c.toNat (if m.getD c.toNat 0 = o then v else m.getD c.toNat 0) := by
    rw [Acc.make, e1, Acc.next]
    rfl
  have e3 : m.set c.toNat (m.getD c.toNat 0) = m := set_same
  rw [e2]
  generalize m.getD c.toNat 0 = z at *
  refine ⟨e1, ?_, ?_⟩
  · by_cases e : z = o <;> simp [Acc.ok, e]
  · by_cases e : z = o
    · rw [if_pos e, if_pos e]
    · rw [if_neg e, if_neg e]
      exact e3
def phMu (l : Ly) (m : List Int) : Ph → Nat
  | .t0 => 6
  | .t1 x => if x = freeOf l m then 5 else 8
  | .t2 x _ => if x = freeOf l m then 4 else 7
  | .t3 _ => 3
  | .t4 _ _ => 2
  | .t5 _ => 1
  | .tz => 1
  | .g0 => 4
  | .g1 x => if x = freeOf l m then 3 else 6
  | .g2 x => if x = freeOf l m then 2 else 5
  | .g3 => 1
  | .no => 0
theorem idx_pack {i : Int} {c : Nat} (h0 : 0 ≤ i) (h1 : i ≤ 9) (hc : c < 268435456) : idxOf (packI i false c) = i ∧ cntOf (packI i false c) = c := by
  simp only [idxOf, cntOf, packI, Bool.false_eq_true, if_false]
  omega
theorem turnW_pack {i y : Int} {c : Nat} {x : Int} (hx : x = packI i false c) (h0 : 0 ≤ i) (h1 : i ≤ 9) (hc : c + 1 < 268435456) (hy0 : 0 ≤ y) (hy1 : y ≤ 9) : turnW x y = packI y false (c + 1 : Nat) := by
  have hcn := (idx_pack (c := c) h0 h1 (by omega)).2
  subst hx
  unfold turnW
  rw [hcn]
  simp only [packI, Bool.false_eq_true, if_false]
  omega
end Go.Proofs.Ytgjdjgainjedhaa
namespace Go.Proofs.Ytgjdjgainjedhaa
open Go.RowKit
set_option linter.unusedVariables false

/-- Where a seat is. -/
inductive Md
  | idle | tk (p : Ph) | put (n : Int) | swp (n : Int)
  | r0 (n : Int) | r1 (n now : Int) | rs (g : Gone) (held : List Int) | rb (held : List Int) (stays : Gone) (g : Int × Int) (rest : Gone)
  | rg (held : List Int) (stays : Gone) (g : Int × Int) (rest : Gone) (p : Ph) | rz (g : Gone)
  | gu (has : Int) | gv (has val : Int) | gs (e : Int) | gz (val : Int)
  | rd (n : Int) (k : Nat) (v : Int) | dr (i : Nat) (n : Int)
def siftD (held : List Int) (stays : Gone) : Gone → Md
  | [] => .rz stays
  | g :: r => .rb held stays g r
def toAcc : Ans → Option Acc
  | .ask k c o v => some ⟨k, c, o, v⟩
  | .out _ _ _ _ => none
/-- The access that comes next, if one does. -/
def Md.ask (l : Ly) (k w : Nat) : Md → Option Acc
  | .tk p => toAcc (p.ans l 0 0)
  | .put n => some ⟨2, nodeAt l n 1, 0, 1000 * (k : Int) + w + 1⟩
  | .swp n => some ⟨5, cellAt l 0, 0, n⟩
  | .r0 _ => some ⟨1, l.era, 0, 0⟩
  | .r1 _ _ => some ⟨4, l.era, 0, 1⟩
  | .rs _ held => some ⟨1, resvAt l ((held.length / 3 : Nat) : Int) ((held.length % 3 : Nat) : Int), 0, 0⟩
  | .rb _ _ g _ => some ⟨1, nodeAt l g.1 6, 0, 0⟩
  | .rg _ _ g _ p => toAcc (p.ans l g.1 0)
  | .gu _ => some ⟨1, cellAt l 0, 0, 0⟩
  | .gv _ _ => some ⟨1, l.era, 0, 0⟩
  | .gs e => some ⟨2, resvAt l (k : Int) 0, 0, e⟩
  | .rd n _ _ => some ⟨1, nodeAt l n 1, 0, 0⟩
  | .dr i _ => if i < 3 then some ⟨2, resvAt l (k : Int) (i : Nat), 0, 0⟩ else none
  | _ => none
/-- Where it is behind an access. -/
def Md.add (l : Ly) (gone : Gone) (r : Int × Bool) : Md → Md
  | .tk p => .tk (p.add r)
  | .put n => .swp n
  | .swp _ => if r.1 = 0 then .idle else .r0 r.1
  | .r0 n => .r1 n r.1
  | .r1 n t => if 2 * l.c.seats ≤ ((gone ++ [(n, t)]).length : Int) then .rs (gone ++ [(n, t)]) [] else .rz (gone ++ [(n, t)])
  | .rs g held => if ((held ++ [r.1]).length : Int) < 3 * l.c.seats then .rs g (held ++ [r.1]) else siftD (held ++ [r.1]) [] g
  | .rb held stays g rest => if heldB held r.1 g.2 then siftD held (stays ++ [g]) rest else .rg held stays g rest .g0
  | .rg held stays g rest p => match p.add r with
    | .g3 => siftD held stays rest
    | q => .rg held stays g rest q
  | .gu has => .gv has r.1
  | .gv has val => if r.1 = has then .gz val else .gs r.1
  | .gs e => .gu e
  | .rd n k _ => if k = 1 then .rd n 2 r.1 else .dr 0 n
  | .dr i n => .dr (i + 1) n
  | md => md
/-- What it tells: where it is then, and what is gone. -/
def Md.tell (gone : Gone) : Md → Md × Gone
  | .tk (.t5 x) => (.put (idxOf x), gone)
  | .tk _ => (.idle, gone)
  | .rz g => (.idle, g)
  | .gz val => (if val = 0 then .dr 0 0 else .rd val 1 0, gone)
  | _ => (.idle, gone)
abbrev SA := Md × Gone
/-- The node that a seat has for itself alone. -/
def Md.us : Md → List Int
  | .tk p => p.md
  | .put n | .swp n => [n]
  | .rg _ _ g _ _ => [g.1]
  | _ => []
/-- What a seat has retired. -/
def Md.pr (gone : Gone) : Md → Gone
  | .rs g _ | .rz g => g
  | .rb _ s g r => s ++ g :: r
  | .rg _ s _ r _ => s ++ r
  | _ => gone
def Md.one : Md → List Int
  | .r0 n | .r1 n _ => [n]
  | _ => []
def Md.sp (gone : Gone) (md : Md) : List Int := md.one ++ (md.pr gone).map Prod.fst
def own (sa : SA) : List Int := sa.1.us ++ sa.1.sp sa.2
def Md.held : Md → List Int
  | .rs _ held | .rb held _ _ _ | .rg held _ _ _ _ => held
  | _ => []
def Md.spec (e x : Int) : Md → Prop
  | .r0 n => x = n
  | .r1 n t => x = n ∧ e ≤ t
  | _ => False
/-- A seat keeps a node from who reserved an era. -/
def SafeAt (sa : SA) (u : Nat) (e x : Int) : Prop :=
  sa.1.spec e x ∨ ((∃ t, (x, t) ∈ sa.1.pr sa.2 ∧ e ≤ t) ∧ (3 * u < sa.1.held.length → sa.1.held[3 * u]? = some e))
def upd' {α : Type} (f : Nat → α) (k : Nat) (x : α) : Nat → α := fun j => if j = k then x else f j
def sumo (f : Nat → List Int) (v : Int) : Nat → Nat
  | 0 => 0
  | k + 1 => sumo f v k + (f k).count v
theorem sumo_congr {f g : Nat → List Int} {v : Int} : ∀ n, (∀ k, k < n → (f k).count v = (g k).count v) → sumo f v n = sumo g v n
  | 0, _ => rfl
  | n + 1, h => by simp only [sumo]; rw [sumo_congr n (fun k hk => h k (by omega)), h n (by omega)]
theorem sumo_upd (ss : Nat → SA) (v : Int) (who : Nat) (x : SA) : ∀ n, who < n → sumo (fun k => own (upd' ss who x k)) v n + (own (ss who)).count v = sumo (fun k => own (ss k)) v n + (own x).count v := by
  intro n
  induction n with
  | zero => intro h; omega
  | succ n ih =>
    intro h
    simp only [sumo]
    by_cases e : n = who
    · subst e
      have h1 := sumo_congr (f := fun k => own (upd' ss n x k)) (g := fun k => own (ss k)) (v := v) n (fun k hk => by simp only [upd']; rw [if_neg (by omega)])
      rw [h1]
      simp only [upd', if_true]
      omega
    · have := ih (by omega)
      simp only [upd'] at this ⊢
      rw [if_neg e]
      omega
theorem sumo_le (f : Nat → List Int) (v : Int) : ∀ n k, k < n → (f k).count v ≤ sumo f v n := by
  intro n
  induction n with
  | zero => intro k h; omega
  | succ n ih =>
    intro k h
    simp only [sumo]
    by_cases e : k = n
    · subst e; omega
    · have := ih k (by omega); omega
theorem sumo_two (f : Nat → List Int) (v : Int) : ∀ n k j, k < n → j < n → k ≠ j → (f k).count v + (f j).count v ≤ sumo f v n := by
  intro n
  induction n with
  | zero => intro k j h; omega
  | succ n ih =>
    intro k j h1 h2 hne
    simp only [sumo]
    by_cases e : k = n
    · subst e; have := sumo_le f v k j (by omega); omega
    · by_cases e2 : j = n
      · subst e2; have := sumo_le f v j k (by omega); omega
      · have := ih k j (by omega) (by omega) hne; omega
/-! What the memory has. -/
def eraOf (l : Ly) (m : List Int) : Int := m.getD l.era.toNat 0
def birthOf (l : Ly) (m : List Int) (a : Int) : Int := m.getD (nodeAt l a 6).toNat 0
def contOf (l : Ly) (m : List Int) (a : Int) : Int := m.getD (nodeAt l a 1).toNat 0
def cellOf (l : Ly) (m : List Int) : Int := m.getD (cellAt l 0).toNat 0
def resvOf (l : Ly) (m : List Int) (k i : Nat) : Int := m.getD (resvAt l (k : Int) (i : Int)).toNat 0
structure ELay (l : Ly) (n sz : Nat) : Prop where
  nn : 2 ≤ l.c.nodes ∧ l.c.nodes ≤ 9
  ns : l.c.seats = n ∧ 1 ≤ n ∧ n ≤ 3
  er : 0 ≤ l.era ∧ l.era < l.resv
  fr : 0 ≤ l.free ∧ l.free < l.resv ∧ l.era ≠ l.free
  rv : l.resv + l.c.seats * 3 ≤ l.cell
  ce : 1 ≤ l.c.cells ∧ l.cell < l.node
  nd : l.node + l.c.nodes * 8 ≤ sz ∧ sz ≤ 1000
  sz : l.size = sz
theorem ELay.cell_of {l : Ly} {n sz : Nat} (ly : ELay l n sz) : cellAt l 0 = l.cell := by
  have := ly.ce
  unfold cellAt withinN
  rw [if_pos (by omega)]
  omega
theorem ELay.resv_of {l : Ly} {n sz : Nat} (ly : ELay l n sz) {k i : Nat} (hk : k < n) (hi : i < 3) : resvAt l (k : Int) (i : Int) = l.resv + k * 3 + i := by
  have := ly.ns
  unfold resvAt withinN
  rw [if_pos (by omega)]
theorem ELay.bd {l : Ly} {n sz : Nat} (ly : ELay l n sz) {k : Nat} (hk : k < n) : (k : Int) * 3 + 3 ≤ l.c.seats * 3 := by
  have := ly.ns
  omega
theorem ELay.nb {l : Ly} {n sz : Nat} (ly : ELay l n sz) {a : Int} (ha : 1 ≤ a ∧ a ≤ l.c.nodes) : 0 ≤ (a - 1) * 8 ∧ (a - 1) * 8 + 8 ≤ l.c.nodes * 8 := by omega
section
variable {l : Ly} {n sz : Nat} {m : List Int} {c : Nat} {v : Int}
/-- What a store leaves as it was. -/
theorem era_set (ly : ELay l n sz) (h : m.length = sz) (hc : c < sz) (hne : (c : Int) ≠ l.era) : eraOf l (m.set c v) = eraOf l m := by
  have := ly.er
  unfold eraOf
  rw [set_at (by omega), if_neg (by omega)]
theorem free_set (ly : ELay l n sz) (h : m.length = sz) (hc : c < sz) (hne : (c : Int) ≠ l.free) : freeOf l (m.set c v) = freeOf l m := by
  have := ly.fr
  unfold freeOf
  rw [set_at (by omega), if_neg (by omega)]
theorem cell_set (ly : ELay l n sz) (h : m.length = sz) (hc : c < sz) (hne : (c : Int) ≠ l.cell) : cellOf l (m.set c v) = cellOf l m := by
  have := ly.ce; have := ly.rv; have := ly.er; have := ly.ns
  unfold cellOf
  rw [ly.cell_of, set_at (by omega), if_neg (by omega)]
theorem resv_set (ly : ELay l n sz) (h : m.length = sz) (hc : c < sz) {k i : Nat} (hk : k < n) (hi : i < 3) (hne : (c : Int) ≠ l.resv + k * 3 + i) : resvOf l (m.set c v) k i = resvOf l m k i := by
  have := ly.er
  unfold resvOf
  rw [ly.resv_of hk hi, set_at (by omega), if_neg (by omega)]
theorem node_set (ly : ELay l n sz) (h : m.length = sz) (hc : c < sz) {a j : Int} (ha : 1 ≤ a ∧ a ≤ l.c.nodes) (hj : 0 ≤ j ∧ j < 8) (hne : (c : Int) ≠ l.node + (a - 1) * 8 + j) : (m.set c v).getD (nodeAt l a j).toNat 0 = m.getD (nodeAt l a j).toNat 0 := by
  have := ly.er; have := ly.rv; have := ly.ns; have := ly.ce
  rw [nodeAt_of l ha hj, set_at (by omega), if_neg (by omega)]
end
/-- What most accesses leave as it was. -/
structure Kp (l : Ly) (n : Nat) (m m' : List Int) : Prop where
  era : eraOf l m' = eraOf l m
  birth : ∀ a, 1 ≤ a ∧ a ≤ l.c.nodes → birthOf l m' a = birthOf l m a
  cont : ∀ a, 1 ≤ a ∧ a ≤ l.c.nodes → contOf l m' a = contOf l m a
  cell : cellOf l m' = cellOf l m
  resv : ∀ k i, k < n → i < 3 → resvOf l m' k i = resvOf l m k i
theorem Kp.refl (l : Ly) (n : Nat) (m : List Int) : Kp l n m m := ⟨rfl, fun _ _ => rfl, fun _ _ => rfl, rfl, fun _ _ _ _ => rfl⟩
theorem kp_free {l : Ly} {n sz : Nat} {m : List Int} (ly : ELay l n sz) (h : m.length = sz) (v : Int) : Kp l n m (m.set l.free.toNat v) := by
  have := ly.er; have := ly.rv; have := ly.ns; have := ly.ce; have := ly.fr; have := ly.nd; have := ly.nn
  refine ⟨era_set ly h (by omega) (by omega), fun a ha => node_set ly h (by omega) ha (by omega) (by omega), fun a ha => node_set ly h (by omega) ha (by omega) (by omega), cell_set ly h (by omega) (by omega), fun k i hk hi => resv_set ly h (by omega) hk hi (by omega)⟩
theorem kp_link {l : Ly} {n sz : Nat} {m : List Int} (ly : ELay l n sz) (h : m.length = sz) {b : Int} (hb : 1 ≤ b ∧ b ≤ l.c.nodes) (v : Int) : Kp l n m (m.set (nodeAt l b 7).toNat v) := by
  have := ly.er; have := ly.rv; have := ly.ns; have := ly.ce; have := ly.fr; have := ly.nd; have := ly.nn
  rw [nodeAt_of l hb (by omega)]
  refine ⟨era_set ly h (by omega) (by omega), fun a ha => node_set ly h (by omega) ha (by omega) (by omega), fun a ha => node_set ly h (by omega) ha (by omega) (by omega), cell_set ly h (by omega) (by omega), fun k i hk hi => resv_set ly h (by omega) hk hi (by have := ly.bd hk; omega)⟩
/-- What a seat's reservations are. -/
def RsOk (l : Ly) (m : List Int) (k : Nat) (md : Md) : Prop :=
  resvOf l m k 1 = 0 ∧ resvOf l m k 2 = 0 ∧ match md with
    | .gu has | .gv has _ => resvOf l m k 0 = has ∧ 0 ≤ has ∧ has ≤ eraOf l m
    | .gs e => 1 ≤ e ∧ e ≤ eraOf l m
    | .gz _ | .rd _ _ _ => True
    | .dr i _ => i ≠ 0 → resvOf l m k 0 = 0
    | _ => resvOf l m k 0 = 0
/-- What a seat knows. -/
def MdOk (l : Ly) (n : Nat) (m : List Int) (went : Nat) : Md → Prop
  | .tk p => PhOk l m went 0 p ∧ p.isT = true ∧ (∀ x u, p = .t4 x u → u ≤ eraOf l m) ∧ (∀ x, p = .t5 x → birthOf l m (idxOf x) ≤ eraOf l m)
  | .put x => birthOf l m x ≤ eraOf l m
  | .swp x => birthOf l m x ≤ eraOf l m ∧ contOf l m x ≠ 0
  | .rs _ held => held.length < 3 * n
  | .rb held _ _ _ => held.length = 3 * n
  | .rg held _ g _ p => held.length = 3 * n ∧ PhOk l m went g.1 p ∧ p.isG = true ∧ p ≠ .g3
  | .rd x k v => x ≠ 0 ∧ (k = 1 ∨ (k = 2 ∧ contOf l m x = v))
  | .dr i _ => i ≤ 3
  | _ => True
/-- Who holds which node, by which era. -/
def Holds (l : Ly) (m : List Int) (k : Nat) : Md → Int → Int → Prop
  | .gv has val, e, x => e = has ∧ x = val ∧ val ≠ 0 ∧ has = eraOf l m
  | .gz val, e, x => e = resvOf l m k 0 ∧ x = val ∧ val ≠ 0
  | .rd n _ _, e, x => e = resvOf l m k 0 ∧ x = n
  | .dr i n, e, x => i = 0 ∧ e = resvOf l m k 0 ∧ x = n ∧ n ≠ 0
  | _, _, _ => False
structure Prot (l : Ly) (n : Nat) (m : List Int) (ss : Nat → SA) (u : Nat) (e x : Int) : Prop where
  pos : 1 ≤ e
  era : e ≤ eraOf l m
  resv : resvOf l m u 0 = e
  birth : birthOf l m x ≤ e
  cont : contOf l m x ≠ 0
  ne : x ≠ 0
  at_ : x = cellOf l m ∨ ∃ k, k < n ∧ SafeAt (ss k) u e x
def cellL (c : Int) : List Int := if c = 0 then [] else [c]
structure EI (l : Ly) (n sz T : Nat) (m : List Int) (ss : Nat → SA) (L : List Int) (went : Nat) : Prop where
  ml : m.length = sz
  fr : freeOf l m = packI (L.headD 0) false went
  chain : Chain (linkOf l m) L
  tot : ∀ v, L.count v + (cellL (cellOf l m)).count v + sumo (fun k => own (ss k)) v n = if 1 ≤ v ∧ v ≤ l.c.nodes then 1 else 0
  links : ∀ a, 1 ≤ a ∧ a ≤ l.c.nodes → 0 ≤ linkOf l m a ∧ linkOf l m a ≤ l.c.nodes
  era : 1 ≤ eraOf l m ∧ eraOf l m ≤ T + 1
  wt : went ≤ T
  cell : cellOf l m ≠ 0 → birthOf l m (cellOf l m) ≤ eraOf l m ∧ contOf l m (cellOf l m) ≠ 0
  seat : ∀ k, k < n → RsOk l m k (ss k).1 ∧ MdOk l n m went (ss k).1
  prot : ∀ k, k < n → ∀ e x, Holds l m k (ss k).1 e x → Prot l n m ss k e x
theorem EI.upd {l : Ly} {n sz T : Nat} {m : List Int} {ss : Nat → SA} {L : List Int} {went : Nat} (h : EI l n sz T m ss L went) {who : Nat} (hw : who < n) {m' L' : List Int} {went' : Nat} {sa' : SA}
    (ml : m'.length = sz) (fr : freeOf l m' = packI (L'.headD 0) false went') (chain : Chain (linkOf l m') L')
    (links : ∀ a, 1 ≤ a ∧ a ≤ l.c.nodes → 0 ≤ linkOf l m' a ∧ linkOf l m' a ≤ l.c.nodes)
    (cs : ∀ v, L'.count v + (cellL (cellOf l m')).count v + (own sa').count v = L.count v + (cellL (cellOf l m)).count v + (own (ss who)).count v)
    (era : 1 ≤ eraOf l m' ∧ eraOf l m' ≤ T + 2) (wt : went' ≤ T + 1)
    (cell : cellOf l m' ≠ 0 → birthOf l m' (cellOf l m') ≤ eraOf l m' ∧ contOf l m' (cellOf l m') ≠ 0)
    (ok : RsOk l m' who sa'.1 ∧ MdOk l n m' went' sa'.1)
    (oks : ∀ k, k < n → k ≠ who → RsOk l m k (ss k).1 → MdOk l n m went (ss k).1 → RsOk l m' k (ss k).1 ∧ MdOk l n m' went' (ss k).1)
    (hold : ∀ e x, Holds l m' who sa'.1 e x → Prot l n m' (upd' ss who sa') who e x)
    (holds : ∀ k, k < n → k ≠ who → ∀ e x, Holds l m' k (ss k).1 e x → Prot l n m' (upd' ss who sa') k e x) : EI l n sz (T + 1) m' (upd' ss who sa') L' went' := by
  refine ⟨ml, fr, chain, fun v => ?_, links, by push_cast; omega, wt, cell, fun k hk => ?_, fun k hk e x hh => ?_⟩
  · have h1 := h.tot v
    have h2 := sumo_upd ss v who sa' n hw
    have h3 := cs v
    omega
  · by_cases e : k = who
    · subst e
      simp only [upd', if_true]
      exact ok
    · have hs := h.seat k hk
      simp only [upd']
      rw [if_neg e]
      exact oks k hk e hs.1 hs.2
  · by_cases e' : k = who
    · subst e'
      simp only [upd', if_true] at hh
      exact hold e x hh
    · simp only [upd'] at hh
      rw [if_neg e'] at hh
      exact holds k hk e' e x hh
section
variable {l : Ly} {n sz T : Nat} {m : List Int} {ss : Nat → SA} {L : List Int} {went : Nat} {who : Nat}
theorem EI.head (h : EI l n sz T m ss L went) (ly : ELay l n sz) : 0 ≤ L.headD 0 ∧ L.headD 0 ≤ l.c.nodes := by
  have h6 := ly.nn
  cases L with
  | nil => simp; omega
  | cons a r =>
    have := h.tot a
    simp only [List.count_cons_self, List.headD_cons] at *
    split at this <;> omega
theorem EI.idx (h : EI l n sz T m ss L went) (ly : ELay l n sz) (hw : went < 268435456) : idxOf (freeOf l m) = L.headD 0 ∧ cntOf (freeOf l m) = went := by
  have h1 := h.head ly
  have h6 := ly.nn
  rw [h.fr]
  exact idx_pack h1.1 (by omega) hw
theorem EI.own_range (h : EI l n sz T m ss L went) (hw : who < n) {v : Int} (hv : v ∈ own (ss who)) : (1 ≤ v ∧ v ≤ l.c.nodes) ∧ v ∉ L ∧ v ≠ cellOf l m ∧ ∀ j, j < n → j ≠ who → v ∉ own (ss j) := by
  have h1 := h.tot v
  have h2 := sumo_le (fun k => own (ss k)) v n who hw
  have h3 := List.count_pos_iff.2 hv
  refine ⟨by split at h1; assumption; omega, fun q => ?_, fun q => ?_, fun j hj hne q => ?_⟩
  · have := List.count_pos_iff.2 q
    split at h1 <;> omega
  · have : (1 : Int) ≤ v ∧ v ≤ l.c.nodes := by split at h1; assumption; omega
    have : (cellL (cellOf l m)).count v = 1 := by
      rw [← q]
      unfold cellL
      rw [if_neg (by omega)]
      simp
    split at h1 <;> omega
  · have h4 := sumo_two (fun k => own (ss k)) v n who j hw hj (fun e => hne e.symm)
    have := List.count_pos_iff.2 q
    split at h1 <;> omega
theorem EI.in_L (h : EI l n sz T m ss L went) {v : Int} (hv : v ∈ L) : 1 ≤ v ∧ v ≤ l.c.nodes := by
  have h1 := h.tot v
  have h3 := List.count_pos_iff.2 hv
  split at h1
  · assumption
  · omega
theorem EI.L_once (h : EI l n sz T m ss L went) (v : Int) : L.count v ≤ 1 := by
  have h1 := h.tot v
  split at h1 <;> omega
theorem EI.cell_range (h : EI l n sz T m ss L went) (hc : cellOf l m ≠ 0) : 1 ≤ cellOf l m ∧ cellOf l m ≤ l.c.nodes := by
  have h1 := h.tot (cellOf l m)
  have : (cellL (cellOf l m)).count (cellOf l m) = 1 := by simp [cellL, hc]
  split at h1
  · assumption
  · omega
theorem safe_sp {sa : SA} {u : Nat} {e x : Int} (h : SafeAt sa u e x) : x ∈ sa.1.sp sa.2 := by
  rcases h with h | ⟨⟨t, h, _⟩, _⟩
  · cases q : sa.1 <;> rw [q] at h <;> simp only [Md.spec] at h
    · simp [Md.sp, Md.one, h]
    · simp [Md.sp, Md.one, h.1]
  · simp only [Md.sp, List.mem_append, List.mem_map]
    exact .inr ⟨_, h, rfl⟩
/-- What is held is no node that somebody has for himself, and no free one. -/
theorem EI.prot_us (h : EI l n sz T m ss L went) {u : Nat} {e x : Int} (p : Prot l n m ss u e x) (hw : who < n) {v : Int} (hv : v ∈ (ss who).1.us) : x ≠ v := by
  rintro rfl
  have hv' : x ∈ own (ss who) := by simp [own, hv]
  obtain ⟨r1, r2, r3, r4⟩ := h.own_range hw hv'
  rcases p.at_ with q | ⟨k, hk, q⟩
  · exact r3 q
  · have q' := safe_sp q
    by_cases e : k = who
    · subst e
      have h1 := h.tot x
      have h2 := sumo_le (fun k => own (ss k)) x n k hw
      have h3 : 2 ≤ (own (ss k)).count x := by
        simp only [own, List.count_append]
        have := List.count_pos_iff.2 hv
        have := List.count_pos_iff.2 q'
        omega
      split at h1 <;> omega
    · exact r4 k hk e (by simp [own, q'])
theorem EI.prot_L (h : EI l n sz T m ss L went) {u : Nat} {e x : Int} (p : Prot l n m ss u e x) : x ∉ L := by
  intro hx
  rcases p.at_ with q | ⟨k, hk, q⟩
  · have h1 := h.tot x
    have := List.count_pos_iff.2 hx
    have : (cellL (cellOf l m)).count x = 1 := by rw [← q]; simp [cellL, p.ne]
    split at h1 <;> omega
  · exact (h.own_range hk (by simp [own, safe_sp q])).2.1 hx
theorem EI.prot_range (h : EI l n sz T m ss L went) {u : Nat} {e x : Int} (p : Prot l n m ss u e x) : 1 ≤ x ∧ x ≤ l.c.nodes := by
  rcases p.at_ with q | ⟨k, hk, q⟩
  · rw [q]; exact h.cell_range (by rw [← q]; exact p.ne)
  · exact (h.own_range hk (by simp [own, safe_sp q])).1
/-- What is held stays held. -/
theorem Prot.mv {m' : List Int} {sa' : SA} {u : Nat} {e x : Int} (p : Prot l n m ss u e x) (hw : who < n) (hera : eraOf l m ≤ eraOf l m') (hr : resvOf l m' u 0 = resvOf l m u 0) (hb : birthOf l m' x = birthOf l m x) (hc : contOf l m' x = contOf l m x)
    (h1 : x = cellOf l m → x = cellOf l m' ∨ SafeAt sa' u e x) (h2 : SafeAt (ss who) u e x → x = cellOf l m' ∨ SafeAt sa' u e x) : Prot l n m' (upd' ss who sa') u e x := by
  have here : SafeAt sa' u e x → ∃ k, k < n ∧ SafeAt (upd' ss who sa' k) u e x := fun q => ⟨who, hw, by simp only [upd', if_true]; exact q⟩
  refine ⟨p.pos, by have := p.era; omega, by rw [hr]; exact p.resv, by rw [hb]; exact p.birth, by rw [hc]; exact p.cont, p.ne, ?_⟩
  rcases p.at_ with q | ⟨k, hk, q⟩
  · exact (h1 q).imp id here
  · by_cases e' : k = who
    · subst e'
      exact (h2 q).imp id here
    · exact .inr ⟨k, hk, by simp only [upd']; rw [if_neg e']; exact q⟩
theorem Kp.rs {m' : List Int} (kp : Kp l n m m') {k : Nat} (hk : k < n) {md : Md} (h : RsOk l m k md) : RsOk l m' k md := by
  have e0 := kp.resv k 0 hk (by omega)
  have e1 := kp.resv k 1 hk (by omega)
  have e2 := kp.resv k 2 hk (by omega)
  have ee := kp.era
  unfold RsOk at h ⊢
  rw [e0, e1, e2, ee]
  exact h
theorem Kp.holds {m' : List Int} (kp : Kp l n m m') {k : Nat} (hk : k < n) {md : Md} {e x : Int} (h : Holds l m' k md e x) : Holds l m k md e x := by
  have e0 := kp.resv k 0 hk (by omega)
  have ee := kp.era
  cases md <;> simp only [Holds, e0, ee] at h ⊢ <;> exact h
/-- What a seat knows stays so. -/
theorem Kp.md {m' : List Int} (kp : Kp l n m m') {went' : Nat} {md : Md} (hr : ∀ v ∈ md.us, 1 ≤ v ∧ v ≤ l.c.nodes) (hx : ∀ x k v, md = .rd x k v → 1 ≤ x ∧ x ≤ l.c.nodes) (hp : ∀ p, md = .tk p → PhOk l m went 0 p → PhOk l m' went' 0 p) (hg : ∀ hd s g r p, md = .rg hd s g r p → PhOk l m went g.1 p → PhOk l m' went' g.1 p) (h : MdOk l n m went md) : MdOk l n m' went' md := by
  have ee := kp.era
  cases md with
  | tk p =>
    obtain ⟨h1, h2, h3, h4⟩ := h
    refine ⟨hp p rfl h1, h2, by rw [ee]; exact h3, fun x hx => ?_⟩
    subst hx
    rw [ee, kp.birth _ (hr _ (by simp [Md.us, Ph.md]))]
    exact h4 x rfl
  | put x =>
    simp only [MdOk] at h ⊢
    rw [ee, kp.birth _ (hr _ (by simp [Md.us]))]
    exact h
  | swp x =>
    simp only [MdOk] at h ⊢
    rw [ee, kp.birth _ (hr _ (by simp [Md.us])), kp.cont _ (hr _ (by simp [Md.us]))]
    exact h
  | rg hd s g r p => exact ⟨h.1, hg _ _ _ _ _ rfl h.2.1, h.2.2⟩
  | rd x k v =>
    simp only [MdOk] at h ⊢
    rw [kp.cont _ (hx x k v rfl)]
    exact h
  | _ => exact h
theorem EI.rd_range (h : EI l n sz T m ss L went) {k : Nat} (hk : k < n) {x : Int} {j : Nat} {v : Int} (e : (ss k).1 = .rd x j v) : 1 ≤ x ∧ x ≤ l.c.nodes :=
  h.prot_range (h.prot k hk (resvOf l m k 0) x (by rw [e]; exact ⟨rfl, rfl⟩))
theorem EI.us_range (h : EI l n sz T m ss L went) {k : Nat} (hk : k < n) : ∀ v ∈ (ss k).1.us, 1 ≤ v ∧ v ≤ l.c.nodes := fun v hv => (h.own_range hk (by simp [own, hv])).1
/-- An access that leaves most as it was. -/
theorem EI.updK (h : EI l n sz T m ss L went) (hw : who < n) {m' L' : List Int} {went' : Nat} {sa' : SA} (kp : Kp l n m m')
    (ml : m'.length = sz) (fr : freeOf l m' = packI (L'.headD 0) false went') (chain : Chain (linkOf l m') L')
    (links : ∀ a, 1 ≤ a ∧ a ≤ l.c.nodes → 0 ≤ linkOf l m' a ∧ linkOf l m' a ≤ l.c.nodes)
    (cs : ∀ v, L'.count v + (own sa').count v = L.count v + (own (ss who)).count v) (wt : went' ≤ T + 1)
    (ok : RsOk l m who sa'.1 ∧ MdOk l n m' went' sa'.1)
    (oks : ∀ k, k < n → k ≠ who → (∀ p, (ss k).1 = .tk p → PhOk l m went 0 p → PhOk l m' went' 0 p) ∧ (∀ hd s g r p, (ss k).1 = .rg hd s g r p → PhOk l m went g.1 p → PhOk l m' went' g.1 p))
    (hold : ∀ e x, Holds l m who sa'.1 e x → Prot l n m ss who e x)
    (safe : ∀ k e x, k < n → Prot l n m ss k e x → SafeAt (ss who) k e x → SafeAt sa' k e x) : EI l n sz (T + 1) m' (upd' ss who sa') L' went' := by
  have he := h.era
  have pm : ∀ k, k < n → ∀ e x, Prot l n m ss k e x → Prot l n m' (upd' ss who sa') k e x := fun k hk e x p => by
    have hr := h.prot_range p
    exact p.mv hw (by rw [kp.era]; exact Int.le_refl _) (kp.resv k 0 hk (by omega)) (kp.birth x hr) (kp.cont x hr) (fun q => .inl (by rw [kp.cell]; exact q)) (fun q => .inr (safe k e x hk p q))
  refine h.upd hw ml fr chain links (fun v => ?_) (by rw [kp.era]; omega) wt ?_ ⟨kp.rs hw ok.1, ok.2⟩ (fun k hk hne o1 o2 => ⟨kp.rs hk o1, kp.md (h.us_range hk) (fun x j v e => h.rd_range hk e) (oks k hk hne).1 (oks k hk hne).2 o2⟩) (fun e x hh => pm who hw e x (hold e x (kp.holds hw hh))) (fun k hk hne e x hh => pm k hk e x (h.prot k hk e x (kp.holds hk hh)))
  · rw [kp.cell]
    have := cs v
    omega
  · rw [kp.cell]
    intro hc
    have hr := h.cell_range hc
    rw [kp.birth _ hr, kp.cont _ hr, kp.era]
    exact h.cell hc
/-- A look: the memory is as it was. -/
theorem EI.look (h : EI l n sz T m ss L went) (hw : who < n) {sa' : SA} (cs : ∀ v, (own sa').count v = (own (ss who)).count v) (ok : RsOk l m who sa'.1 ∧ MdOk l n m went sa'.1)
    (hold : ∀ e x, Holds l m who sa'.1 e x → Prot l n m ss who e x)
    (safe : ∀ k e x, k < n → Prot l n m ss k e x → SafeAt (ss who) k e x → SafeAt sa' k e x) : EI l n sz (T + 1) m (upd' ss who sa') L went :=
  h.updK hw (Kp.refl l n m) h.ml h.fr h.chain h.links (fun v => by rw [cs v]) (by have := h.wt; omega) ok (fun k _ _ => ⟨fun _ _ q => q, fun _ _ _ _ _ _ q => q⟩) hold safe
end
end Go.Proofs.Ytgjdjgainjedhaa
namespace Go.Proofs.Ytgjdjgainjedhaa
open Go.RowKit
set_option linter.unusedVariables false
section
variable {l : Ly} {n sz T : Nat} {m : List Int} {ss : Nat → SA} {L : List Int} {went : Nat} {who : Nat} {gone : Gone}
theorem linkOf_set (ly : ELay l n sz) (h : m.length = sz) {a b v : Int} (ha : 1 ≤ a ∧ a ≤ l.c.nodes) (hb : 1 ≤ b ∧ b ≤ l.c.nodes) (hne : a ≠ b) : linkOf l (m.set (nodeAt l b 7).toNat v) a = linkOf l m a := by
  have := ly.nd; have := ly.nn; have := ly.er; have := ly.rv; have := ly.ns; have := ly.ce
  rw [nodeAt_of l hb (by omega)]
  exact node_set ly h (by omega) ha (by omega) (by omega)
theorem linkOf_self (ly : ELay l n sz) (h : m.length = sz) {b v : Int} (hb : 1 ≤ b ∧ b ≤ l.c.nodes) : linkOf l (m.set (nodeAt l b 7).toNat v) b = v := by
  have := ly.nd; have := ly.nn; have := ly.er; have := ly.rv; have := ly.ns; have := ly.ce
  unfold linkOf
  rw [nodeAt_of l hb (by omega), set_at (by omega), if_pos rfl]
theorem PhOk.congr {m' : List Int} {a : Int} {p : Ph} (hf : freeOf l m' = freeOf l m) (hl : ∀ a, 1 ≤ a ∧ a ≤ l.c.nodes → linkOf l m' a = linkOf l m a) (h : PhOk l m went a p) : PhOk l m' went a p := by
  cases p with
  | t1 x => simp only [PhOk] at h ⊢; rw [hf]; exact h
  | t2 x y => simp only [PhOk] at h ⊢; rw [hf, hl _ h.1]; exact h
  | g1 x => simp only [PhOk] at h ⊢; rw [hf]; exact h
  | g2 x => simp only [PhOk] at h ⊢; rw [hf, hl _ h.1]; exact h
  | _ => exact h
theorem PhOk.goes {m' : List Int} {a : Int} {p : Ph} (hl : ∀ a, 1 ≤ a ∧ a ≤ l.c.nodes → linkOf l m' a = linkOf l m a) (h : PhOk l m went a p) : PhOk l m' (went + 1) a p := by
  cases p with
  | t1 x => simp only [PhOk] at h ⊢; exact ⟨h.1, by omega, fun e => by omega⟩
  | t2 x y => simp only [PhOk] at h ⊢; exact ⟨h.1, h.2.1, by omega, fun e => by omega⟩
  | g1 x => simp only [PhOk] at h ⊢; exact ⟨h.1, h.2.1, by omega, fun e => by omega⟩
  | g2 x => simp only [PhOk] at h ⊢; rw [hl _ h.1]; exact ⟨h.1, h.2.1, by omega, (fun e => by omega), h.2.2.2.2⟩
  | _ => exact h
theorem PhOk.link (h : EI l n sz T m ss L went) (ly : ELay l n sz) (hwt : went < 268435456) {b v : Int} (hb : 1 ≤ b ∧ b ≤ l.c.nodes) (hbL : b ∉ L) {a : Int} {p : Ph} (hne : p.isG = true → a ≠ b) (hp : PhOk l m went a p) : PhOk l (m.set (nodeAt l b 7).toNat v) went a p := by
  have hf : freeOf l (m.set (nodeAt l b 7).toNat v) = freeOf l m := by
    have := ly.nd; have := ly.nn; have := ly.er; have := ly.rv; have := ly.ns; have := ly.ce; have := ly.fr
    rw [nodeAt_of l hb (by omega)]
    exact free_set ly h.ml (by omega) (by omega)
  cases p with
  | t1 x => simp only [PhOk] at hp ⊢; rw [hf]; exact hp
  | t2 x y =>
    simp only [PhOk] at hp ⊢
    refine ⟨hp.1, hp.2.1, hp.2.2.1, fun e => ?_⟩
    obtain ⟨e1, e2⟩ := hp.2.2.2 e
    rw [hf, linkOf_set ly h.ml hp.1 hb]
    · exact ⟨e1, e2⟩
    · intro q
      obtain ⟨i1, _⟩ := h.idx ly hwt
      rw [← e1] at i1
      cases L with
      | nil => simp at i1; omega
      | cons c r => simp only [List.headD_cons] at i1; exact hbL (by rw [← q, i1]; simp)
  | g1 x => simp only [PhOk] at hp ⊢; rw [hf]; exact hp
  | g2 x => simp only [PhOk] at hp ⊢; rw [hf, linkOf_set ly h.ml hp.1 hb (hne rfl)]; exact hp
  | _ => exact hp
theorem RsOk.mv {m' : List Int} {k : Nat} {md : Md} (hr : ∀ i, i < 3 → resvOf l m' k i = resvOf l m k i) (he : eraOf l m ≤ eraOf l m') (h : RsOk l m k md) : RsOk l m' k md := by
  have e0 := hr 0 (by omega)
  have e1 := hr 1 (by omega)
  have e2 := hr 2 (by omega)
  unfold RsOk at h ⊢
  rw [e0, e1, e2]
  refine ⟨h.1, h.2.1, ?_⟩
  have h3 := h.2.2
  cases md <;> dsimp only at h3 ⊢ <;> first | exact h3 | omega
theorem MdOk.mv {m' : List Int} {went' : Nat} {md : Md} (he : eraOf l m ≤ eraOf l m') (hb : ∀ x ∈ md.us, birthOf l m' x = birthOf l m x) (hc : ∀ x ∈ md.us, contOf l m' x = contOf l m x) (hx : ∀ x k v, md = .rd x k v → contOf l m' x = contOf l m x)
    (hp : ∀ p, md = .tk p → PhOk l m went 0 p → PhOk l m' went' 0 p) (hg : ∀ hd s g r p, md = .rg hd s g r p → PhOk l m went g.1 p → PhOk l m' went' g.1 p) (h : MdOk l n m went md) : MdOk l n m' went' md := by
  cases md with
  | tk p =>
    obtain ⟨h1, h2, h3, h4⟩ := h
    refine ⟨hp p rfl h1, h2, fun x u e => by have := h3 x u e; omega, fun x e => ?_⟩
    have := h4 x e
    subst e
    rw [hb _ (by simp [Md.us, Ph.md])]
    omega
  | put x =>
    simp only [MdOk] at h ⊢
    rw [hb _ (by simp [Md.us])]
    omega
  | swp x =>
    simp only [MdOk] at h ⊢
    rw [hb _ (by simp [Md.us]), hc _ (by simp [Md.us])]
    exact ⟨by omega, h.2⟩
  | rg hd s g r p => exact ⟨h.1, hg _ _ _ _ _ rfl h.2.1, h.2.2⟩
  | rd x k v =>
    simp only [MdOk] at h ⊢
    rw [hx x k v rfl]
    exact h
  | _ => exact h
theorem Holds.mv {m' : List Int} {k : Nat} {md : Md} {e x : Int} (hr : resvOf l m' k 0 = resvOf l m k 0) (he : eraOf l m' = eraOf l m ∨ (eraOf l m < eraOf l m' ∧ RsOk l m k md)) (h : Holds l m' k md e x) : Holds l m k md e x := by
  cases md <;> simp only [Holds, hr] at h ⊢ <;> try exact h
  rename_i has val
  rcases he with he | ⟨he, h2⟩
  · rw [he] at h; exact h
  · have h3 := h2.2.2
    dsimp only at h3
    omega
/-! Takes. -/
theorem rs_of (h : EI l n sz T m ss L went) (hw : who < n) {md : Md} (hs : ss who = (md, gone)) : RsOk l m who md := by have := (h.seat who hw).1; rwa [hs] at this
theorem ok_of (h : EI l n sz T m ss L went) (hw : who < n) {md : Md} (hs : ss who = (md, gone)) : MdOk l n m went md := by have := (h.seat who hw).2; rwa [hs] at this
theorem tk_look (h : EI l n sz T m ss L went) (hw : who < n) {p p' : Ph} (hs : ss who = (.tk p, gone)) (he : p'.md = p.md) (hph : PhOk l m went 0 p') (ht : p'.isT = true) (h4 : ∀ x u, p' = .t4 x u → u ≤ eraOf l m) (h5 : ∀ x, p' = .t5 x → birthOf l m (idxOf x) ≤ eraOf l m) :
    EI l n sz (T + 1) m (upd' ss who (.tk p', gone)) L went := by
  refine h.look hw (fun v => ?_) ⟨(rs_of h hw hs : RsOk l m who (.tk p)), hph, ht, h4, h5⟩ (fun e x q => q.elim) (fun k e x _ _ q => ?_)
  · rw [hs]
    show (p'.md ++ _).count v = (p.md ++ _).count v
    rw [he]
    rfl
  · rw [hs] at q
    exact q
/-- A try of a take that goes. -/
theorem tk_cas (h : EI l n sz T m ss L went) (ly : ELay l n sz) (hwt : went + 1 < 268435456) (hw : who < n) {x y : Int} (hs : ss who = (.tk (.t2 x y), gone)) (hx : x = freeOf l m) :
    ∃ L', EI l n sz (T + 1) (m.set l.free.toNat (turnW x y)) (upd' ss who (.tk (.t3 x), gone)) L' (went + 1) := by
  obtain ⟨⟨p1, p2, p3, p4⟩, -, -, -⟩ := ok_of h hw hs
  obtain ⟨i1, i2⟩ := h.idx ly (by omega)
  rw [← hx] at i1 i2
  obtain ⟨-, hy⟩ := p4 i2
  have f1 := ly.fr; have f2 := ly.nd; have f3 := ly.nn; have f4 := ly.rv; have f5 := ly.ce; have f6 := ly.ns
  cases L with
  | nil => simp at i1; omega
  | cons a r =>
    simp only [List.headD_cons] at i1
    obtain ⟨c1, c2⟩ := h.chain
    have hyr : y = r.headD 0 := by rw [hy, i1]; exact c1
    have hfx : x = packI a false went := by rw [hx]; exact h.fr
    have hlk : ∀ a, 1 ≤ a ∧ a ≤ l.c.nodes → linkOf l (m.set l.free.toNat (turnW x y)) a = linkOf l m a := fun a ha => node_set ly h.ml (by omega) ha (by omega) (by have := ly.nb ha; omega)
    refine ⟨r, h.updK hw (kp_free ly h.ml _) (by simp [h.ml]) ?_ ?_ (fun a ha => by rw [hlk a ha]; exact h.links a ha) (fun v => ?_) (by have := h.wt; omega) ⟨(rs_of h hw hs : RsOk l m who (.tk (.t2 x y))), by exact p1, rfl, (fun _ _ e => by cases e), (fun _ e => by cases e)⟩ (fun k _ _ => ⟨fun p _ q => q.goes hlk, fun _ _ _ _ p _ q => q.goes hlk⟩) (fun e x q => q.elim) (fun k e x _ _ q => ?_)⟩
    · unfold freeOf
      rw [set_at (by rw [h.ml]; omega), if_pos rfl, turnW_pack hfx (by omega) (by omega) hwt p2.1 (by omega), hyr]
    · exact c2.congr fun a ha => hlk a (h.in_L (by simp [ha]))
    · rw [hs]
      show r.count v + ([idxOf x] ++ _).count v = (a :: r).count v + ([] ++ _).count v
      rw [i1]
      simp only [List.count_append, List.count_cons, List.count_nil]
      show _ + (_ + (Md.sp gone (.tk (.t3 x))).count v) = _ + (_ + (Md.sp gone (.tk (.t2 x y))).count v)
      have e : Md.sp gone (.tk (.t3 x)) = Md.sp gone (.tk (.t2 x y)) := rfl
      rw [e]
      omega
    · rw [hs] at q
      exact q
/-- A node's birth is put down. -/
theorem tk_birth (h : EI l n sz T m ss L went) (ly : ELay l n sz) (hw : who < n) {x u : Int} (hs : ss who = (.tk (.t4 x u), gone)) :
    EI l n sz (T + 1) (m.set (nodeAt l (idxOf x) 6).toNat u) (upd' ss who (.tk (.t5 x), gone)) L went := by
  obtain ⟨p1, -, p3, -⟩ := ok_of h hw hs
  have hu := p3 x u rfl
  have hb : 1 ≤ idxOf x ∧ idxOf x ≤ l.c.nodes := p1
  have hn := ly.nb hb
  have f0 := ly.er; have f1 := ly.fr; have f2 := ly.nd; have f3 := ly.nn; have f4 := ly.rv; have f5 := ly.ce; have f6 := ly.ns
  have hus : idxOf x ∈ (ss who).1.us := by rw [hs]; simp [Md.us, Ph.md]
  obtain ⟨r1, r2, r3, r4⟩ := h.own_range hw (v := idxOf x) (by simp [own, hus])
  have hna := nodeAt_of l hb (b := 6) (by omega)
  obtain ⟨c, hc⟩ : ∃ c : Nat, (nodeAt l (idxOf x) 6).toNat = c := ⟨_, rfl⟩
  have hcc : (c : Int) = l.node + (idxOf x - 1) * 8 + 6 := by omega
  rw [hc]
  have hcs : c < sz := by omega
  have eera : eraOf l (m.set c u) = eraOf l m := era_set ly h.ml hcs (by omega)
  have efree : freeOf l (m.set c u) = freeOf l m := free_set ly h.ml hcs (by omega)
  have elink : ∀ a, 1 ≤ a ∧ a ≤ l.c.nodes → linkOf l (m.set c u) a = linkOf l m a := fun a ha => node_set ly h.ml hcs ha (by omega) (by omega)
  have econt : ∀ a, 1 ≤ a ∧ a ≤ l.c.nodes → contOf l (m.set c u) a = contOf l m a := fun a ha => node_set ly h.ml hcs ha (by omega) (by omega)
  have ebirth : ∀ a, 1 ≤ a ∧ a ≤ l.c.nodes → a ≠ idxOf x → birthOf l (m.set c u) a = birthOf l m a := fun a ha hne => node_set ly h.ml hcs ha (by omega) (by omega)
  have ecell : cellOf l (m.set c u) = cellOf l m := cell_set ly h.ml hcs (by omega)
  have eresv : ∀ k i, k < n → i < 3 → resvOf l (m.set c u) k i = resvOf l m k i := fun k i hk hi => resv_set ly h.ml hcs hk hi (by have := ly.bd hk; omega)
  have pm : ∀ k, k < n → ∀ e z, Prot l n m ss k e z → Prot l n (m.set c u) (upd' ss who (.tk (.t5 x), gone)) k e z := fun k hk e z p => by
    have hr := h.prot_range p
    refine p.mv hw (by rw [eera]; exact Int.le_refl _) (eresv k 0 hk (by omega)) (ebirth z hr (h.prot_us p hw hus)) (econt z hr) (fun q => .inl (by rw [ecell]; exact q)) (fun q => .inr ?_)
    rw [hs] at q
    exact q
  refine h.upd hw (by simp [h.ml]) (by rw [efree]; exact h.fr) (h.chain.congr fun a ha => elink a (h.in_L ha)) (fun a ha => by rw [elink a ha]; exact h.links a ha) (fun v => ?_) (by have := h.era; rw [eera]; omega) (by have := h.wt; omega) ?_ ?_
    (fun k hk hne o1 o2 => ⟨o1.mv (fun i hi => eresv k i hk hi) (by rw [eera]; exact Int.le_refl _), o2.mv (by rw [eera]; exact Int.le_refl _) (fun z hz => ebirth z (h.us_range hk z hz) (fun e => r4 k hk hne (by rw [← e]; simp [own, hz]))) (fun z hz => econt z (h.us_range hk z hz)) (fun z j v e => econt z (h.rd_range hk e)) (fun p _ q => q.congr efree elink) (fun _ _ _ _ p _ q => q.congr efree elink)⟩)
    (fun e z q => q.elim) (fun k hk hne e z hh => pm k hk e z (h.prot k hk e z (hh.mv (eresv k 0 hk (by omega)) (.inl eera))))
  · rw [hs, ecell]
    rfl
  · rw [ecell]
    intro hc0
    have hr := h.cell_range hc0
    rw [ebirth _ hr (fun e => r3 e.symm), econt _ hr, eera]
    exact h.cell hc0
  · refine ⟨(rs_of h hw hs : RsOk l m who (.tk (.t4 x u))).mv (fun i hi => eresv who i hw hi) (by rw [eera]; exact Int.le_refl _), p1, rfl, (fun _ _ e => by cases e), fun z e => ?_⟩
    injection e with e
    subst e
    rw [eera]
    unfold birthOf
    rw [hc, set_at (by rw [h.ml]; exact hcs), if_pos rfl]
    exact hu
/-- What a node has is put down. -/
theorem put_cont (h : EI l n sz T m ss L went) (ly : ELay l n sz) (hw : who < n) {x u : Int} (hu : u ≠ 0) (hs : ss who = (.put x, gone)) :
    (nodeAt l x 1 ≥ 0 ∧ nodeAt l x 1 < sz) ∧ EI l n sz (T + 1) (m.set (nodeAt l x 1).toNat u) (upd' ss who (.swp x, gone)) L went := by
  have p1 := ok_of h hw hs
  have hus : x ∈ (ss who).1.us := by rw [hs]; simp [Md.us]
  obtain ⟨hb, r2, r3, r4⟩ := h.own_range hw (v := x) (by simp [own, hus])
  have hn := ly.nb hb
  have f0 := ly.er; have f1 := ly.fr; have f2 := ly.nd; have f3 := ly.nn; have f4 := ly.rv; have f5 := ly.ce; have f6 := ly.ns
  have hna := nodeAt_of l hb (b := 1) (by omega)
  obtain ⟨c, hc⟩ : ∃ c : Nat, (nodeAt l x 1).toNat = c := ⟨_, rfl⟩
  have hcc : (c : Int) = l.node + (x - 1) * 8 + 1 := by omega
  refine ⟨by omega, ?_⟩
  rw [hc]
  have hcs : c < sz := by omega
  have eera : eraOf l (m.set c u) = eraOf l m := era_set ly h.ml hcs (by omega)
  have efree : freeOf l (m.set c u) = freeOf l m := free_set ly h.ml hcs (by omega)
  have elink : ∀ a, 1 ≤ a ∧ a ≤ l.c.nodes → linkOf l (m.set c u) a = linkOf l m a := fun a ha => node_set ly h.ml hcs ha (by omega) (by omega)
  have ebirth : ∀ a, 1 ≤ a ∧ a ≤ l.c.nodes → birthOf l (m.set c u) a = birthOf l m a := fun a ha => node_set ly h.ml hcs ha (by omega) (by omega)
  have econt : ∀ a, 1 ≤ a ∧ a ≤ l.c.nodes → a ≠ x → contOf l (m.set c u) a = contOf l m a := fun a ha hne => node_set ly h.ml hcs ha (by omega) (by omega)
  have ecell : cellOf l (m.set c u) = cellOf l m := cell_set ly h.ml hcs (by omega)
  have eresv : ∀ k i, k < n → i < 3 → resvOf l (m.set c u) k i = resvOf l m k i := fun k i hk hi => resv_set ly h.ml hcs hk hi (by have := ly.bd hk; omega)
  have pm : ∀ k, k < n → ∀ e z, Prot l n m ss k e z → Prot l n (m.set c u) (upd' ss who (.swp x, gone)) k e z := fun k hk e z p => by
    have hr := h.prot_range p
    refine p.mv hw (by rw [eera]; exact Int.le_refl _) (eresv k 0 hk (by omega)) (ebirth z hr) (econt z hr (h.prot_us p hw hus)) (fun q => .inl (by rw [ecell]; exact q)) (fun q => .inr ?_)
    rw [hs] at q
    exact q
  refine h.upd hw (by simp [h.ml]) (by rw [efree]; exact h.fr) (h.chain.congr fun a ha => elink a (h.in_L ha)) (fun a ha => by rw [elink a ha]; exact h.links a ha) (fun v => ?_) (by have := h.era; rw [eera]; omega) (by have := h.wt; omega) ?_ ?_
    (fun k hk hne o1 o2 => ⟨o1.mv (fun i hi => eresv k i hk hi) (by rw [eera]; exact Int.le_refl _), o2.mv (by rw [eera]; exact Int.le_refl _) (fun z hz => ebirth z (h.us_range hk z hz)) (fun z hz => econt z (h.us_range hk z hz) (fun e => r4 k hk hne (by rw [← e]; simp [own, hz]))) (fun z j v e => econt z (h.rd_range hk e) (h.prot_us (h.prot k hk (resvOf l m k 0) z (by rw [e]; exact ⟨rfl, rfl⟩)) hw hus)) (fun p _ q => q.congr efree elink) (fun _ _ _ _ p _ q => q.congr efree elink)⟩)
    (fun e z q => q.elim) (fun k hk hne e z hh => pm k hk e z (h.prot k hk e z (hh.mv (eresv k 0 hk (by omega)) (.inl eera))))
  · rw [hs, ecell]
    rfl
  · rw [ecell]
    intro hc0
    have hr := h.cell_range hc0
    rw [ebirth _ hr, econt _ hr (fun e => r3 e.symm), eera]
    exact h.cell hc0
  · refine ⟨(rs_of h hw hs : RsOk l m who (.put x)).mv (fun i hi => eresv who i hw hi) (by rw [eera]; exact Int.le_refl _), ?_, ?_⟩
    · rw [eera, ebirth x hb]; exact p1
    · unfold contOf
      rw [hc, set_at (by rw [h.ml]; exact hcs), if_pos rfl]
      exact hu
/-- The cell's node is another one. -/
theorem swp_cell (h : EI l n sz T m ss L went) (ly : ELay l n sz) (hw : who < n) {x : Int} (hs : ss who = (.swp x, gone)) :
    EI l n sz (T + 1) (m.set l.cell.toNat x) (upd' ss who (if cellOf l m = 0 then .idle else .r0 (cellOf l m), gone)) L went := by
  have p1 := ok_of h hw hs
  have hus : x ∈ (ss who).1.us := by rw [hs]; simp [Md.us]
  obtain ⟨hb, r2, r3, r4⟩ := h.own_range hw (v := x) (by simp [own, hus])
  have f0 := ly.er; have f1 := ly.fr; have f2 := ly.nd; have f3 := ly.nn; have f4 := ly.rv; have f5 := ly.ce; have f6 := ly.ns
  obtain ⟨c, hc⟩ : ∃ c : Nat, l.cell.toNat = c := ⟨_, rfl⟩
  have hcc : (c : Int) = l.cell := by omega
  rw [hc]
  have hcs : c < sz := by omega
  have eera : eraOf l (m.set c x) = eraOf l m := era_set ly h.ml hcs (by omega)
  have efree : freeOf l (m.set c x) = freeOf l m := free_set ly h.ml hcs (by omega)
  have elink : ∀ a, 1 ≤ a ∧ a ≤ l.c.nodes → linkOf l (m.set c x) a = linkOf l m a := fun a ha => node_set ly h.ml hcs ha (by omega) (by omega)
  have ebirth : ∀ a, 1 ≤ a ∧ a ≤ l.c.nodes → birthOf l (m.set c x) a = birthOf l m a := fun a ha => node_set ly h.ml hcs ha (by omega) (by omega)
  have econt : ∀ a, 1 ≤ a ∧ a ≤ l.c.nodes → contOf l (m.set c x) a = contOf l m a := fun a ha => node_set ly h.ml hcs ha (by omega) (by omega)
  have ecell : cellOf l (m.set c x) = x := by
    unfold cellOf
    rw [ly.cell_of, hc, set_at (by rw [h.ml]; exact hcs), if_pos rfl]
  have eresv : ∀ k i, k < n → i < 3 → resvOf l (m.set c x) k i = resvOf l m k i := fun k i hk hi => resv_set ly h.ml hcs hk hi (by have := ly.bd hk; omega)
  obtain ⟨o, ho⟩ : ∃ o, cellOf l m = o := ⟨_, rfl⟩
  obtain ⟨md', hmd⟩ : ∃ md', (if cellOf l m = 0 then Md.idle else .r0 (cellOf l m)) = md' := ⟨_, rfl⟩
  rw [hmd]
  have hcase : (o = 0 ∧ md' = .idle) ∨ (o ≠ 0 ∧ md' = .r0 o) := by
    by_cases e : o = 0
    · left; rw [ho, if_pos e] at hmd; exact ⟨e, hmd.symm⟩
    · right; rw [ho, if_neg e] at hmd; exact ⟨e, hmd.symm⟩
  have pm : ∀ k, k < n → ∀ e z, Prot l n m ss k e z → Prot l n (m.set c x) (upd' ss who (md', gone)) k e z := fun k hk e z p => by
    have hr := h.prot_range p
    refine p.mv hw (by rw [eera]; exact Int.le_refl _) (eresv k 0 hk (by omega)) (ebirth z hr) (econt z hr) (fun q => .inr ?_) (fun q => .inr ?_)
    · rcases hcase with ⟨e1, e2⟩ | ⟨e1, e2⟩
      · rw [ho] at q
        exact absurd (q.trans e1) p.ne
      · rw [e2]
        left
        rw [ho] at q
        exact q
    · rw [hs] at q
      rcases q with q | q
      · exact q.elim
      · rcases hcase with ⟨e1, e2⟩ | ⟨e1, e2⟩
        · rw [e2]; right; exact q
        · rw [e2]; right; exact q
  refine h.upd hw (by simp [h.ml]) (by rw [efree]; exact h.fr) (h.chain.congr fun a ha => elink a (h.in_L ha)) (fun a ha => by rw [elink a ha]; exact h.links a ha) (fun v => ?_) (by have := h.era; rw [eera]; omega) (by have := h.wt; omega) ?_ ?_
    (fun k hk hne o1 o2 => ⟨o1.mv (fun i hi => eresv k i hk hi) (by rw [eera]; exact Int.le_refl _), o2.mv (by rw [eera]; exact Int.le_refl _) (fun z hz => ebirth z (h.us_range hk z hz)) (fun z hz => econt z (h.us_range hk z hz)) (fun z j v e => econt z (h.rd_range hk e)) (fun p _ q => q.congr efree elink) (fun _ _ _ _ p _ q => q.congr efree elink)⟩)
    (fun e z q => ?_) (fun k hk hne e z hh => pm k hk e z (h.prot k hk e z (hh.mv (eresv k 0 hk (by omega)) (.inl eera))))
  · rw [hs, ecell, ho]
    have hx0 : x ≠ 0 := by omega
    rcases hcase with ⟨e1, e2⟩ | ⟨e1, e2⟩
    · rw [e1, e2]
      simp only [own, Md.us, Md.sp, Md.one, Md.pr, cellL, if_neg hx0, if_pos, List.count_append, List.count_nil]
      omega
    · rw [e2]
      simp only [own, Md.us, Md.sp, Md.one, Md.pr, cellL, if_neg hx0, if_neg e1, List.count_append, List.count_nil]
      omega
  · rw [ecell]
    intro _
    rw [ebirth _ hb, econt _ hb, eera]
    exact p1
  · have hr := (rs_of h hw hs : RsOk l m who (.swp x)).mv (fun i hi => eresv who i hw hi) (show eraOf l m ≤ eraOf l (m.set c x) by rw [eera]; exact Int.le_refl _)
    rcases hcase with ⟨e1, e2⟩ | ⟨e1, e2⟩
    · rw [e2]; exact ⟨hr, trivial⟩
    · rw [e2]; exact ⟨hr, trivial⟩
  · rcases hcase with ⟨e1, e2⟩ | ⟨e1, e2⟩
    · rw [e2] at q; exact q.elim
    · rw [e2] at q; exact q.elim
end
end Go.Proofs.Ytgjdjgainjedhaa
namespace Go.Proofs.Ytgjdjgainjedhaa
open Go.RowKit
set_option linter.unusedVariables false
section
variable {l : Ly} {n sz T : Nat} {m : List Int} {ss : Nat → SA} {L : List Int} {went : Nat} {who : Nat} {gone : Gone}
theorem siftD_own {h : List Int} {s g gone : Gone} : own (siftD h s g, gone) = (s ++ g).map Prod.fst := by
  cases g <;> simp [siftD, own, Md.us, Md.sp, Md.one, Md.pr]
theorem siftD_safe {h : List Int} {s g gone : Gone} {u : Nat} {e x : Int} (h1 : ∃ t, (x, t) ∈ s ++ g ∧ e ≤ t) (h2 : 3 * u < h.length → h[3 * u]? = some e) : SafeAt (siftD h s g, gone) u e x := by
  cases g with
  | nil =>
    refine .inr ⟨?_, (fun q => by simp [siftD, Md.held] at q)⟩
    rw [List.append_nil] at h1
    exact h1
  | cons a r => exact .inr ⟨h1, h2⟩
theorem siftD_ok {h : List Int} {s g : Gone} (hl : h.length = 3 * n) : MdOk l n m went (siftD h s g) := by
  cases g with
  | nil => exact trivial
  | cons a r => exact hl
theorem siftD_rs {h : List Int} {s g : Gone} {k : Nat} (hr : resvOf l m k 1 = 0 ∧ resvOf l m k 2 = 0 ∧ resvOf l m k 0 = 0) : RsOk l m k (siftD h s g) := by
  cases g with
  | nil => exact hr
  | cons a r => exact hr
theorem siftD_holds {h : List Int} {s g : Gone} {k : Nat} {e x : Int} (q : Holds l m k (siftD h s g) e x) : False := by
  cases g with
  | nil => exact q
  | cons a r => exact q
theorem r0_look (h : EI l n sz T m ss L went) (hw : who < n) {x : Int} (hs : ss who = (.r0 x, gone)) : EI l n sz (T + 1) m (upd' ss who (.r1 x (eraOf l m), gone)) L went := by
  refine h.look hw (fun v => by rw [hs]; rfl) ⟨(rs_of h hw hs : RsOk l m who (.r0 x)), trivial⟩ (fun e x q => q.elim) (fun k e z _ p q => ?_)
  rw [hs] at q
  rcases q with q | q
  · exact .inl ⟨q, p.era⟩
  · exact .inr q
theorem wrapE_in {x : Int} (h0 : 0 ≤ x) (h1 : x < 9223372036854775808) : wrap64 x = x := by
  unfold wrap64
  omega
theorem r1_add (h : EI l n sz T m ss L went) (ly : ELay l n sz) (hw : who < n) {x t : Int} (hs : ss who = (.r1 x t, gone)) :
    EI l n sz (T + 1) (m.set l.era.toNat (eraOf l m + 1)) (upd' ss who (if 2 * l.c.seats ≤ ((gone ++ [(x, t)]).length : Int) then .rs (gone ++ [(x, t)]) [] else .rz (gone ++ [(x, t)]), gone)) L went := by
  have f0 := ly.er; have f1 := ly.fr; have f2 := ly.nd; have f3 := ly.nn; have f4 := ly.rv; have f5 := ly.ce; have f6 := ly.ns
  obtain ⟨c, hc⟩ : ∃ c : Nat, l.era.toNat = c := ⟨_, rfl⟩
  have hcc : (c : Int) = l.era := by omega
  obtain ⟨v1, hv1⟩ : ∃ v1, eraOf l m + 1 = v1 := ⟨_, rfl⟩
  rw [hc, hv1]
  have hcs : c < sz := by omega
  have eera : eraOf l (m.set c v1) = v1 := by unfold eraOf; rw [hc, set_at (by rw [h.ml]; exact hcs), if_pos rfl]
  have efree : freeOf l (m.set c v1) = freeOf l m := free_set ly h.ml hcs (by omega)
  have elink : ∀ a, 1 ≤ a ∧ a ≤ l.c.nodes → linkOf l (m.set c v1) a = linkOf l m a := fun a ha => node_set ly h.ml hcs ha (by omega) (by omega)
  have ebirth : ∀ a, 1 ≤ a ∧ a ≤ l.c.nodes → birthOf l (m.set c v1) a = birthOf l m a := fun a ha => node_set ly h.ml hcs ha (by omega) (by omega)
  have econt : ∀ a, 1 ≤ a ∧ a ≤ l.c.nodes → contOf l (m.set c v1) a = contOf l m a := fun a ha => node_set ly h.ml hcs ha (by omega) (by omega)
  have ecell : cellOf l (m.set c v1) = cellOf l m := cell_set ly h.ml hcs (by omega)
  have eresv : ∀ k i, k < n → i < 3 → resvOf l (m.set c v1) k i = resvOf l m k i := fun k i hk hi => resv_set ly h.ml hcs hk hi (by have := ly.bd hk; omega)
  have hle : eraOf l m ≤ eraOf l (m.set c v1) := by rw [eera]; omega
  obtain ⟨md', hmd⟩ : ∃ md', (if 2 * l.c.seats ≤ ((gone ++ [(x, t)]).length : Int) then Md.rs (gone ++ [(x, t)]) [] else .rz (gone ++ [(x, t)])) = md' := ⟨_, rfl⟩
  rw [hmd]
  have hcase : md' = .rs (gone ++ [(x, t)]) [] ∨ md' = .rz (gone ++ [(x, t)]) := by
    rw [← hmd]
    split
    · exact .inl rfl
    · exact .inr rfl
  have hown : own (md', gone) = (gone ++ [(x, t)]).map Prod.fst := by rcases hcase with e | e <;> rw [e] <;> simp [own, Md.us, Md.sp, Md.one, Md.pr]
  have hsafe : ∀ u e z, SafeAt (.r1 x t, gone) u e z → SafeAt (md', gone) u e z := by
    intro u e z q
    have q2 : ∃ t', (z, t') ∈ gone ++ [(x, t)] ∧ e ≤ t' := by
      rcases q with ⟨q1, q2⟩ | ⟨⟨t', q1, q2⟩, _⟩
      · exact ⟨t, by rw [q1]; simp, q2⟩
      · exact ⟨t', List.mem_append_left _ q1, q2⟩
    rcases hcase with e' | e' <;> rw [e'] <;> exact .inr ⟨q2, fun q => by simp [Md.held] at q⟩
  have pm : ∀ k, k < n → ∀ e z, Prot l n m ss k e z → Prot l n (m.set c v1) (upd' ss who (md', gone)) k e z := fun k hk e z p => by
    have hr := h.prot_range p
    refine p.mv hw hle (eresv k 0 hk (by omega)) (ebirth z hr) (econt z hr) (fun q => .inl (by rw [ecell]; exact q)) (fun q => .inr ?_)
    rw [hs] at q
    exact hsafe _ _ _ q
  have he := h.era
  refine h.upd hw (by simp [h.ml]) (by rw [efree]; exact h.fr) (h.chain.congr fun a ha => elink a (h.in_L ha)) (fun a ha => by rw [elink a ha]; exact h.links a ha) (fun v => ?_) (by rw [eera]; omega) (by have := h.wt; omega) ?_ ?_
    (fun k hk hne o1 o2 => ⟨o1.mv (fun i hi => eresv k i hk hi) hle, o2.mv hle (fun z hz => ebirth z (h.us_range hk z hz)) (fun z hz => econt z (h.us_range hk z hz)) (fun z j v e => econt z (h.rd_range hk e)) (fun p _ q => q.congr efree elink) (fun _ _ _ _ p _ q => q.congr efree elink)⟩)
    (fun e z q => ?_) (fun k hk hne e z hh => pm k hk e z (h.prot k hk e z (hh.mv (eresv k 0 hk (by omega)) (.inr ⟨by rw [eera]; omega, (h.seat k hk).1⟩))))
  · rw [hs, ecell, hown]
    simp only [own, Md.us, Md.sp, Md.one, Md.pr, List.map_append, List.map_cons, List.map_nil, List.nil_append, List.count_append]
    omega
  · rw [ecell]
    intro hc0
    have hr := h.cell_range hc0
    have := h.cell hc0
    rw [ebirth _ hr, econt _ hr]
    exact ⟨by omega, this.2⟩
  · have hr := (rs_of h hw hs : RsOk l m who (.r1 x t)).mv (fun i hi => eresv who i hw hi) hle
    rcases hcase with e | e <;> rw [e]
    · exact ⟨hr, by simp only [MdOk, List.length_nil]; omega⟩
    · exact ⟨hr, trivial⟩
  · rcases hcase with e' | e' <;> rw [e'] at q <;> exact q.elim
theorem rs_look (h : EI l n sz T m ss L went) (ly : ELay l n sz) (hw : who < n) {g : Gone} {held : List Int} (hs : ss who = (.rs g held, gone)) :
    EI l n sz (T + 1) m (upd' ss who (if ((held ++ [resvOf l m (held.length / 3) (held.length % 3)]).length : Int) < 3 * l.c.seats then .rs g (held ++ [resvOf l m (held.length / 3) (held.length % 3)]) else siftD (held ++ [resvOf l m (held.length / 3) (held.length % 3)]) [] g, gone)) L went := by
  have f6 := ly.ns
  have hl : held.length < 3 * n := ok_of h hw hs
  have hr : RsOk l m who (.rs g held) := rs_of h hw hs
  obtain ⟨r, er⟩ : ∃ r, resvOf l m (held.length / 3) (held.length % 3) = r := ⟨_, rfl⟩
  rw [er]
  have hnew : ∀ k e, k < n → resvOf l m k 0 = e → (3 * k < held.length → held[3 * k]? = some e) → 3 * k < (held ++ [r]).length → (held ++ [r])[3 * k]? = some e := by
    intro k e hk hre h1 h2
    by_cases q : 3 * k < held.length
    · rw [List.getElem?_append_left q]; exact h1 q
    · have q2 : 3 * k = held.length := by simp at h2; omega
      rw [q2, List.getElem?_append_right (Nat.le_refl _), Nat.sub_self]
      have e1 : held.length / 3 = k := by omega
      have e2 : held.length % 3 = 0 := by omega
      rw [e1, e2] at er
      simp [← er, hre]
  split
  · rename_i hlt
    refine h.look hw (fun v => by rw [hs]; rfl) ⟨hr, by simp only [MdOk, List.length_append, List.length_singleton] at hlt ⊢; omega⟩ (fun e x q => q.elim) (fun k e x hk p q => ?_)
    rw [hs] at q
    rcases q with q | ⟨q1, q2⟩
    · exact q.elim
    · exact .inr ⟨q1, hnew k e hk p.resv q2⟩
  · rename_i hlt
    refine h.look hw (fun v => ?_) ⟨siftD_rs ⟨hr.1, hr.2.1, hr.2.2⟩, siftD_ok (by simp only [List.length_append, List.length_singleton] at hlt ⊢; omega)⟩ (fun e x q => (siftD_holds q).elim) (fun k e x hk p q => ?_)
    · rw [hs, siftD_own]; rfl
    · rw [hs] at q
      rcases q with q | ⟨q1, q2⟩
      · exact q.elim
      · exact siftD_safe q1 (hnew k e hk p.resv q2)
theorem held_yes {held : List Int} {i : Nat} {e b t : Int} (h : held[i]? = some e) (h1 : 1 ≤ e) (h2 : b ≤ e) (h3 : e ≤ t) : heldB held b t = true := by
  unfold heldB
  rw [List.any_eq_true]
  exact ⟨e, List.mem_of_getElem? h, by simp; omega⟩
theorem rb_look (h : EI l n sz T m ss L went) (hw : who < n) {held : List Int} {s rest : Gone} {g : Int × Int} (hs : ss who = (.rb held s g rest, gone)) :
    EI l n sz (T + 1) m (upd' ss who (if heldB held (birthOf l m g.1) g.2 then siftD held (s ++ [g]) rest else .rg held s g rest .g0, gone)) L went := by
  have hl : held.length = 3 * n := ok_of h hw hs
  have hr : RsOk l m who (.rb held s g rest) := rs_of h hw hs
  have hgr : 1 ≤ g.1 ∧ g.1 ≤ l.c.nodes := (h.own_range hw (v := g.1) (by rw [hs]; simp [own, Md.us, Md.sp, Md.one, Md.pr])).1
  split
  · refine h.look hw (fun v => ?_) ⟨siftD_rs ⟨hr.1, hr.2.1, hr.2.2⟩, siftD_ok hl⟩ (fun e x q => (siftD_holds q).elim) (fun k e x hk p q => ?_)
    · rw [hs, siftD_own]
      simp [own, Md.us, Md.sp, Md.one, Md.pr]
    · rw [hs] at q
      rcases q with q | ⟨q1, q2⟩
      · exact q.elim
      · exact siftD_safe (by simpa [Md.pr] using q1) q2
  · rename_i hno
    refine h.look hw (fun v => ?_) ⟨hr, hl, hgr, rfl, fun e => by cases e⟩ (fun e x q => q.elim) (fun k e x hk p q => ?_)
    · rw [hs]
      simp only [own, Md.us, Md.sp, Md.one, Md.pr, List.map_append, List.map_cons, List.count_append, List.count_cons, List.count_nil, List.nil_append]
      omega
    · rw [hs] at q
      rcases q with q | ⟨⟨t, q1, q3⟩, q2⟩
      · exact q.elim
      · refine .inr ⟨⟨t, ?_, q3⟩, q2⟩
        simp only [Md.pr, List.mem_append, List.mem_cons] at q1 ⊢
        rcases q1 with q1 | q1 | q1
        · exact .inl q1
        · exfalso
          apply hno
          have hi := q2 (by rw [show Md.held (.rb held s g rest) = held from rfl]; omega)
          have hx : x = g.1 := by rw [← q1]
          have ht : t = g.2 := by rw [← q1]
          exact held_yes hi p.pos (by rw [← hx]; exact p.birth) (by rw [← ht]; exact q3)
        · exact .inr q1
theorem rg_look (h : EI l n sz T m ss L went) (hw : who < n) {held : List Int} {s rest : Gone} {g : Int × Int} {p p' : Ph} (hs : ss who = (.rg held s g rest p, gone)) (hp : PhOk l m went g.1 p') (h1 : p'.isG = true) (h2 : p' ≠ .g3) :
    EI l n sz (T + 1) m (upd' ss who (.rg held s g rest p', gone)) L went := by
  have ho : MdOk l n m went (.rg held s g rest p) := ok_of h hw hs
  refine h.look hw (fun v => by rw [hs]; rfl) ⟨(rs_of h hw hs : RsOk l m who (.rg held s g rest p)), ho.1, hp, h1, h2⟩ (fun e x q => q.elim) (fun k e x hk p q => ?_)
  rw [hs] at q
  exact q
theorem rg_own (h : EI l n sz T m ss L went) (hw : who < n) {held : List Int} {s rest : Gone} {g : Int × Int} {p : Ph} (hs : ss who = (.rg held s g rest p, gone)) : (1 ≤ g.1 ∧ g.1 ≤ l.c.nodes) ∧ g.1 ∉ L ∧ g.1 ≠ cellOf l m ∧ ∀ j, j < n → j ≠ who → g.1 ∉ own (ss j) :=
  h.own_range hw (by rw [hs]; simp [own, Md.us])
theorem rg_link (h : EI l n sz T m ss L went) (ly : ELay l n sz) (hwt : went + 1 < 268435456) (hw : who < n) {held : List Int} {s rest : Gone} {g : Int × Int} {x : Int} (hs : ss who = (.rg held s g rest (.g1 x), gone)) :
    EI l n sz (T + 1) (m.set (nodeAt l g.1 7).toNat (idxOf x)) (upd' ss who (.rg held s g rest (.g2 x), gone)) L went := by
  obtain ⟨r1, r2, r3, r4⟩ := rg_own h hw hs
  have ho : MdOk l n m went (.rg held s g rest (.g1 x)) := ok_of h hw hs
  obtain ⟨o1, ⟨o2, o3, o4, o5⟩, -, -⟩ := ho
  have hf : freeOf l (m.set (nodeAt l g.1 7).toNat (idxOf x)) = freeOf l m := by
    have := ly.nd; have := ly.nn; have := ly.er; have := ly.rv; have := ly.ns; have := ly.ce; have := ly.fr
    rw [nodeAt_of l r1 (by omega)]
    exact free_set ly h.ml (by omega) (by omega)
  refine h.updK hw (kp_link ly h.ml r1 _) (by simp [h.ml]) (by rw [hf]; exact h.fr) (h.chain.congr fun a ha => linkOf_set ly h.ml (h.in_L ha) r1 (fun e => r2 (e ▸ ha))) (fun a ha => ?_) (fun v => by rw [hs]; rfl) (by have := h.wt; omega)
    ⟨(rs_of h hw hs : RsOk l m who (.rg held s g rest (.g1 x))), o1, ⟨r1, o3, o4, (fun e => by rw [hf]; exact o5 e), linkOf_self ly h.ml r1⟩, rfl, fun e => by cases e⟩
    (fun k hk hne => ⟨fun p e q => q.link h ly (by omega) r1 r2 (fun e2 => ?_), fun hd s' g' r' p e q => q.link h ly (by omega) r1 r2 (fun _ e2 => ?_)⟩) (fun e z q => q.elim) (fun k e z _ _ q => by rw [hs] at q; exact q)
  · by_cases e : a = g.1
    · rw [e, linkOf_self ly h.ml r1]; exact o3
    · rw [linkOf_set ly h.ml ha r1 e]; exact h.links a ha
  · have ht := (h.seat k hk).2
    rw [e] at ht
    have := ht.2.1
    cases p <;> simp [Ph.isT, Ph.isG] at this e2
  · exact r4 k hk hne (by rw [← e2]; simp [own, e, Md.us])
theorem rg_cas (h : EI l n sz T m ss L went) (ly : ELay l n sz) (hwt : went + 1 < 268435456) (hw : who < n) {held : List Int} {s rest : Gone} {g : Int × Int} {x : Int} (hs : ss who = (.rg held s g rest (.g2 x), gone)) (hx : x = freeOf l m) :
    ∃ L', EI l n sz (T + 1) (m.set l.free.toNat (turnW x g.1)) (upd' ss who (siftD held s rest, gone)) L' (went + 1) := by
  obtain ⟨r1, r2, r3, r4⟩ := rg_own h hw hs
  have ho : MdOk l n m went (.rg held s g rest (.g2 x)) := ok_of h hw hs
  obtain ⟨o1, ⟨o2, o3, o4, o5, o6⟩, -, -⟩ := ho
  obtain ⟨i1, i2⟩ := h.idx ly (by omega)
  rw [← hx] at i1 i2
  have f1 := ly.fr; have f2 := ly.nd; have f3 := ly.nn; have f4 := ly.rv; have f5 := ly.ce; have f6 := ly.ns
  have hr : RsOk l m who (.rg held s g rest (.g2 x)) := rs_of h hw hs
  have hlk : ∀ a, 1 ≤ a ∧ a ≤ l.c.nodes → linkOf l (m.set l.free.toNat (turnW x g.1)) a = linkOf l m a := fun a ha => node_set ly h.ml (by omega) ha (by omega) (by have := ly.nb ha; omega)
  have hh := h.head ly
  have hfx : x = packI (L.headD 0) false went := by rw [hx]; exact h.fr
  refine ⟨g.1 :: L, h.updK hw (kp_free ly h.ml _) (by simp [h.ml]) ?_ ?_ (fun a ha => by rw [hlk a ha]; exact h.links a ha) (fun v => ?_) (by have := h.wt; omega) ⟨siftD_rs ⟨hr.1, hr.2.1, hr.2.2⟩, siftD_ok o1⟩ (fun k _ _ => ⟨fun p _ q => q.goes hlk, fun _ _ _ _ p _ q => q.goes hlk⟩) (fun e x q => (siftD_holds q).elim) (fun k e x _ _ q => ?_)⟩
  · unfold freeOf
    rw [set_at (by rw [h.ml]; omega), if_pos rfl, turnW_pack hfx hh.1 (by omega) hwt (by omega) (by omega)]
    rfl
  · refine ⟨?_, h.chain.congr fun a ha => hlk a (h.in_L ha)⟩
    rw [hlk g.1 r1, o6, i1]
  · rw [hs, siftD_own]
    simp only [own, Md.us, Md.sp, Md.one, Md.pr, List.map_append, List.count_append, List.count_cons, List.count_nil, List.nil_append]
    omega
  · rw [hs] at q
    rcases q with q | ⟨q1, q2⟩
    · exact q.elim
    · exact siftD_safe q1 q2
/-! Guards, reads, drops. -/
theorem same_safe {a b : Md} (h1 : ∀ e x, a.spec e x → b.spec e x) (h2 : a.pr gone = b.pr gone) (h3 : a.held = b.held) {k : Nat} {e x : Int} (q : SafeAt (a, gone) k e x) : SafeAt (b, gone) k e x := by
  unfold SafeAt at q ⊢
  dsimp only at q ⊢
  rw [← h2, ← h3]
  exact q.imp (h1 e x) id
theorem gu_look (h : EI l n sz T m ss L went) (hw : who < n) {has : Int} (hs : ss who = (.gu has, gone)) : EI l n sz (T + 1) m (upd' ss who (.gv has (cellOf l m), gone)) L went := by
  have hr : RsOk l m who (.gu has) := rs_of h hw hs
  have he := h.era
  refine h.look hw (fun v => by rw [hs]; rfl) ⟨hr, trivial⟩ (fun e x q => ?_) (fun k e z _ p q => by rw [hs] at q; exact q)
  obtain ⟨rfl, rfl, q1, q2⟩ := q
  have hc := h.cell q1
  exact ⟨by omega, by omega, hr.2.2.1, by omega, hc.2, q1, .inl rfl⟩
theorem gv_look (h : EI l n sz T m ss L went) (hw : who < n) {has val : Int} (hs : ss who = (.gv has val, gone)) : EI l n sz (T + 1) m (upd' ss who (if eraOf l m = has then .gz val else .gs (eraOf l m), gone)) L went := by
  have hr : RsOk l m who (.gv has val) := rs_of h hw hs
  have he := h.era
  split
  · rename_i e0
    refine h.look hw (fun v => by rw [hs]; rfl) ⟨⟨hr.1, hr.2.1, trivial⟩, trivial⟩ (fun e x q => ?_) (fun k e z _ p q => by rw [hs] at q; exact q)
    obtain ⟨q0, rfl, q1⟩ := q
    have q2 : e = has := by rw [q0]; exact hr.2.2.1
    exact h.prot who hw e x (by rw [hs]; exact ⟨q2, rfl, q1, e0.symm⟩)
  · exact h.look hw (fun v => by rw [hs]; rfl) ⟨⟨hr.1, hr.2.1, he.1, Int.le_refl _⟩, trivial⟩ (fun e x q => q.elim) (fun k e z _ p q => by rw [hs] at q; exact q)
/-- A store into one's own reservations. -/
theorem resv_store (h : EI l n sz T m ss L went) (ly : ELay l n sz) (hw : who < n) {md md' : Md} (hs : ss who = (md, gone)) {i : Nat} (hi : i < 3) {v : Int}
    (ho : own (md', gone) = own (md, gone)) (h1 : ∀ e x, md.spec e x → md'.spec e x) (h2 : md.pr gone = md'.pr gone) (h3 : md.held = md'.held) (hu : md'.us = []) (hok : ∀ m', MdOk l n m' went md')
    (hrs : (∀ j, j < 3 → j ≠ i → resvOf l (m.set (resvAt l (who : Int) (i : Int)).toNat v) who j = resvOf l m who j) → resvOf l (m.set (resvAt l (who : Int) (i : Int)).toNat v) who i = v → eraOf l (m.set (resvAt l (who : Int) (i : Int)).toNat v) = eraOf l m → RsOk l (m.set (resvAt l (who : Int) (i : Int)).toNat v) who md')
    (hno : ∀ m' e x, Holds l m' who md' e x → False) : EI l n sz (T + 1) (m.set (resvAt l (who : Int) (i : Int)).toNat v) (upd' ss who (md', gone)) L went := by
  have f0 := ly.er; have f1 := ly.fr; have f2 := ly.nd; have f3 := ly.nn; have f4 := ly.rv; have f5 := ly.ce; have f6 := ly.ns; have f7 := ly.bd hw
  have hra := ly.resv_of hw hi
  obtain ⟨c, hc⟩ : ∃ c : Nat, (resvAt l (who : Int) (i : Int)).toNat = c := ⟨_, rfl⟩
  have hcc : (c : Int) = l.resv + who * 3 + i := by omega
  rw [hc] at hrs ⊢
  have hcs : c < sz := by omega
  have eera : eraOf l (m.set c v) = eraOf l m := era_set ly h.ml hcs (by omega)
  have efree : freeOf l (m.set c v) = freeOf l m := free_set ly h.ml hcs (by omega)
  have elink : ∀ a, 1 ≤ a ∧ a ≤ l.c.nodes → linkOf l (m.set c v) a = linkOf l m a := fun a ha => node_set ly h.ml hcs ha (by omega) (by omega)
  have ebirth : ∀ a, 1 ≤ a ∧ a ≤ l.c.nodes → birthOf l (m.set c v) a = birthOf l m a := fun a ha => node_set ly h.ml hcs ha (by omega) (by omega)
  have econt : ∀ a, 1 ≤ a ∧ a ≤ l.c.nodes → contOf l (m.set c v) a = contOf l m a := fun a ha => node_set ly h.ml hcs ha (by omega) (by omega)
  have ecell : cellOf l (m.set c v) = cellOf l m := cell_set ly h.ml hcs (by omega)
  have eresv : ∀ k j, k < n → j < 3 → k ≠ who ∨ j ≠ i → resvOf l (m.set c v) k j = resvOf l m k j := fun k j hk hj hne => resv_set ly h.ml hcs hk hj (by omega)
  have eself : resvOf l (m.set c v) who i = v := by unfold resvOf; rw [hc, set_at (by rw [h.ml]; exact hcs), if_pos rfl]
  have hle : eraOf l m ≤ eraOf l (m.set c v) := by rw [eera]; exact Int.le_refl _
  have pm : ∀ k, k < n → k ≠ who → ∀ e z, Prot l n m ss k e z → Prot l n (m.set c v) (upd' ss who (md', gone)) k e z := fun k hk hne e z p => by
    have hr := h.prot_range p
    refine p.mv hw hle (eresv k 0 hk (by omega) (.inl hne)) (ebirth z hr) (econt z hr) (fun q => .inl (by rw [ecell]; exact q)) (fun q => .inr ?_)
    rw [hs] at q
    exact same_safe h1 h2 h3 q
  refine h.upd hw (by simp [h.ml]) (by rw [efree]; exact h.fr) (h.chain.congr fun a ha => elink a (h.in_L ha)) (fun a ha => by rw [elink a ha]; exact h.links a ha) (fun v => ?_) (by have := h.era; rw [eera]; omega) (by have := h.wt; omega) ?_ ⟨hrs (fun j hj hne => eresv who j hw hj (.inr hne)) eself eera, hok _⟩
    (fun k hk hne o1 o2 => ⟨o1.mv (fun i hi => eresv k i hk hi (.inl hne)) hle, o2.mv hle (fun z hz => ebirth z (h.us_range hk z hz)) (fun z hz => econt z (h.us_range hk z hz)) (fun z j v e => econt z (h.rd_range hk e)) (fun p _ q => q.congr efree elink) (fun _ _ _ _ p _ q => q.congr efree elink)⟩)
    (fun e z q => (hno _ _ _ q).elim) (fun k hk hne e z hh => pm k hk hne e z (h.prot k hk e z (hh.mv (eresv k 0 hk (by omega) (.inl hne)) (.inl eera))))
  · rw [hs, ecell, ho]
  · rw [ecell]
    intro hc0
    have hr := h.cell_range hc0
    rw [ebirth _ hr, econt _ hr, eera]
    exact h.cell hc0
theorem gs_store (h : EI l n sz T m ss L went) (ly : ELay l n sz) (hw : who < n) {e : Int} (hs : ss who = (.gs e, gone)) : EI l n sz (T + 1) (m.set (resvAt l (who : Int) 0).toNat e) (upd' ss who (.gu e, gone)) L went := by
  have hr : RsOk l m who (.gs e) := rs_of h hw hs
  obtain ⟨a1, a2, a3, a4⟩ := hr
  refine resv_store h ly hw hs (i := 0) (by omega) (v := e) rfl (fun _ _ q => q) rfl rfl rfl (fun _ => trivial) (fun q1 q2 q3 => ⟨?_, ?_, ?_⟩) (fun _ _ _ q => q)
  · rw [q1 1 (by omega) (by omega)]; exact a1
  · rw [q1 2 (by omega) (by omega)]; exact a2
  · exact ⟨q2, by omega, by rw [q3]; exact a4⟩
theorem dr_store (h : EI l n sz T m ss L went) (ly : ELay l n sz) (hw : who < n) {i : Nat} {x : Int} (hi : i < 3) (hs : ss who = (.dr i x, gone)) : EI l n sz (T + 1) (m.set (resvAt l (who : Int) (i : Int)).toNat 0) (upd' ss who (.dr (i + 1) x, gone)) L went := by
  have hr : RsOk l m who (.dr i x) := rs_of h hw hs
  obtain ⟨a1, a2, a3⟩ := hr
  refine resv_store h ly hw hs hi (v := 0) rfl (fun _ _ q => q) rfl rfl rfl (fun _ => by simp only [MdOk]; omega) (fun q1 q2 q3 => ⟨?_, ?_, fun _ => ?_⟩) (fun _ _ _ q => by simp [Holds] at q)
  · by_cases e : i = 1
    · rw [e] at q2; rw [e]; exact q2
    · rw [q1 1 (by omega) (fun q => e q.symm)]; exact a1
  · by_cases e : i = 2
    · rw [e] at q2; rw [e]; exact q2
    · rw [q1 2 (by omega) (fun q => e q.symm)]; exact a2
  · by_cases e : i = 0
    · rw [e] at q2; rw [e]; exact q2
    · rw [q1 0 (by omega) (fun q => e q.symm)]; exact a3 e
theorem rd_look (h : EI l n sz T m ss L went) (hw : who < n) {x v : Int} {k : Nat} (hs : ss who = (.rd x k v, gone)) : (contOf l m x ≠ 0 ∧ (k = 2 → contOf l m x = v)) ∧ EI l n sz (T + 1) m (upd' ss who (if k = 1 then .rd x 2 (contOf l m x) else .dr 0 x, gone)) L went := by
  have hr : RsOk l m who (.rd x k v) := rs_of h hw hs
  have ho : MdOk l n m went (.rd x k v) := ok_of h hw hs
  have hp := h.prot who hw (resvOf l m who 0) x (by rw [hs]; exact ⟨rfl, rfl⟩)
  refine ⟨⟨hp.cont, fun e => by rcases ho.2 with q | q; omega; exact q.2⟩, ?_⟩
  split
  · refine h.look hw (fun v => by rw [hs]; rfl) ⟨hr, ho.1, .inr ⟨rfl, rfl⟩⟩ (fun e z q => ?_) (fun k e z _ p q => by rw [hs] at q; exact q)
    obtain ⟨rfl, rfl⟩ := q
    exact hp
  · refine h.look hw (fun v => by rw [hs]; rfl) ⟨⟨hr.1, hr.2.1, fun e => absurd rfl e⟩, by simp only [MdOk]; omega⟩ (fun e z q => ?_) (fun k e z _ p q => by rw [hs] at q; exact q)
    obtain ⟨-, rfl, rfl, -⟩ := q
    exact hp
/-! What is told. -/
theorem tk_told (h : EI l n sz T m ss L went) (hw : who < n) {x : Int} (hs : ss who = (.tk (.t5 x), gone)) : EI l n sz (T + 1) m (upd' ss who (.put (idxOf x), gone)) L went := by
  have ho : MdOk l n m went (.tk (.t5 x)) := ok_of h hw hs
  exact h.look hw (fun v => by rw [hs]; rfl) ⟨(rs_of h hw hs : RsOk l m who (.tk (.t5 x))), ho.2.2.2 x rfl⟩ (fun e z q => q.elim) (fun k e z _ p q => by rw [hs] at q; exact q)
theorem tz_told (h : EI l n sz T m ss L went) (hw : who < n) (hs : ss who = (.tk .tz, gone)) : EI l n sz (T + 1) m (upd' ss who (.idle, gone)) L went :=
  h.look hw (fun v => by rw [hs]; rfl) ⟨(rs_of h hw hs : RsOk l m who (.tk .tz)), trivial⟩ (fun e z q => q.elim) (fun k e z _ p q => by rw [hs] at q; exact q)
theorem rz_told (h : EI l n sz T m ss L went) (hw : who < n) {g : Gone} (hs : ss who = (.rz g, gone)) : EI l n sz (T + 1) m (upd' ss who (.idle, g)) L went :=
  h.look hw (fun v => by rw [hs]; rfl) ⟨(rs_of h hw hs : RsOk l m who (.rz g)), trivial⟩ (fun e z q => q.elim) (fun k e z _ p q => by rw [hs] at q; exact q)
theorem gz_told (h : EI l n sz T m ss L went) (hw : who < n) {val : Int} (hs : ss who = (.gz val, gone)) : EI l n sz (T + 1) m (upd' ss who (if val = 0 then .dr 0 0 else .rd val 1 0, gone)) L went := by
  have hr : RsOk l m who (.gz val) := rs_of h hw hs
  split
  · refine h.look hw (fun v => by rw [hs]; rfl) ⟨⟨hr.1, hr.2.1, fun e => absurd rfl e⟩, by simp only [MdOk]; omega⟩ (fun e z q => ?_) (fun k e z _ p q => by rw [hs] at q; exact q)
    obtain ⟨-, -, -, q⟩ := q
    exact absurd rfl q
  · rename_i e0
    refine h.look hw (fun v => by rw [hs]; rfl) ⟨⟨hr.1, hr.2.1, trivial⟩, e0, .inl rfl⟩ (fun e z q => ?_) (fun k e z _ p q => by rw [hs] at q; exact q)
    obtain ⟨rfl, rfl⟩ := q
    exact h.prot who hw _ _ (by rw [hs]; exact ⟨rfl, rfl, e0⟩)
theorem dr_told (h : EI l n sz T m ss L went) (hw : who < n) {i : Nat} {x : Int} (hi : ¬ i < 3) (hs : ss who = (.dr i x, gone)) : EI l n sz (T + 1) m (upd' ss who (.idle, gone)) L went := by
  have hr : RsOk l m who (.dr i x) := rs_of h hw hs
  exact h.look hw (fun v => by rw [hs]; rfl) ⟨⟨hr.1, hr.2.1, hr.2.2 (by omega)⟩, trivial⟩ (fun e z q => q.elim) (fun k e z _ p q => by rw [hs] at q; exact q)
theorem wake_w (h : EI l n sz T m ss L went) (hw : who < n) (hs : ss who = (.idle, gone)) : EI l n sz (T + 1) m (upd' ss who (.tk .t0, gone)) L went :=
  h.look hw (fun v => by rw [hs]; rfl) ⟨(rs_of h hw hs : RsOk l m who .idle), trivial, rfl, (fun _ _ e => by cases e), (fun _ e => by cases e)⟩ (fun e z q => q.elim) (fun k e z _ p q => by rw [hs] at q; exact q)
theorem wake_l (h : EI l n sz T m ss L went) (hw : who < n) (hs : ss who = (.idle, gone)) : EI l n sz (T + 1) m (upd' ss who (.gu 0, gone)) L went := by
  have hr : RsOk l m who .idle := rs_of h hw hs
  have he := h.era
  exact h.look hw (fun v => by rw [hs]; rfl) ⟨⟨hr.1, hr.2.1, hr.2.2, Int.le_refl _, by omega⟩, trivial⟩ (fun e z q => q.elim) (fun k e z _ p q => by rw [hs] at q; exact q)
end
end Go.Proofs.Ytgjdjgainjedhaa
namespace Go.Proofs.Ytgjdjgainjedhaa
open Go.RowKit
set_option linter.unusedVariables false
/-- How far it is to the end. -/
def mu (l : Ly) (m : List Int) (gone : Gone) : Md → Nat
  | .idle => 0
  | .tk p => phMu l m p + 18 + 4 * gone.length
  | .put _ => 18 + 4 * gone.length
  | .swp _ => 17 + 4 * gone.length
  | .r0 _ => 16 + 4 * gone.length
  | .r1 _ _ => 15 + 4 * gone.length
  | .rs g held => (10 - held.length) + 4 * g.length
  | .rb _ _ _ rest => 5 + 4 * rest.length
  | .rg _ _ _ rest p => phMu l m p + 4 * rest.length
  | .rz _ => 1
  | .gu has => if has = eraOf l m then 10 else 13
  | .gv has _ => if has = eraOf l m then 9 else 12
  | .gs e => if e = eraOf l m then 11 else 14
  | .gz _ => 8
  | .rd _ k _ => if k = 1 then 7 else 6
  | .dr i _ => 4 - i
/-- How much may be gone behind it. -/
def gcnt (gone : Gone) : Md → Nat
  | .tk _ | .put _ | .swp _ | .r0 _ | .r1 _ _ => gone.length + 1
  | .rs g _ | .rz g => g.length
  | .rb _ s _ r | .rg _ s _ r _ => s.length + 1 + r.length
  | _ => gone.length
section
variable {l : Ly} {n sz T : Nat} {m : List Int} {ss : Nat → SA} {L : List Int} {went : Nat} {who : Nat} {gone : Gone}
theorem siftD_mu {h : List Int} {s g : Gone} : mu l m gone (siftD h s g) = 1 + 4 * g.length := by
  cases g <;> simp [siftD, mu] <;> omega
theorem siftD_gcnt {h : List Int} {s g : Gone} : gcnt gone (siftD h s g) = s.length + g.length := by
  cases g <;> simp [siftD, gcnt] <;> omega
theorem acc_err5 {k c o v : Int} {m : Nat} (hc : 0 ≤ c ∧ c < m) (h : (k = 4 ∨ k = 5) ∧ o = 0) : (⟨k, c, o, v⟩ : Acc).err m = 0 := by
  have h1 : (⟨k, c, o, v⟩ : Acc).right = true := by
    rcases h with ⟨rfl | rfl, rfl⟩ <;> simp [Acc.right, hc.1]
  unfold Acc.err
  rw [if_pos h1, if_pos hc.2]
theorem acc_swap {c v : Int} {m : List Int} : (⟨5, c, 0, v⟩ : Acc).make m = m.set c.toNat v ∧ (⟨5, c, 0, v⟩ : Acc).ok ((⟨5, c, 0, v⟩ : Acc).had m) = true ∧ (⟨5, c, 0, v⟩ : Acc).had m = m.getD c.toNat 0 := ⟨by simp [Acc.make, Acc.next], rfl, rfl⟩
theorem acc_add {c v : Int} {m : List Int} : (⟨4, c, 0, v⟩ : Acc).make m = m.set c.toNat (wrap64 (m.getD c.toNat 0 + v)) ∧ (⟨4, c, 0, v⟩ : Acc).ok ((⟨4, c, 0, v⟩ : Acc).had m) = true ∧ (⟨4, c, 0, v⟩ : Acc).had m = m.getD c.toNat 0 := ⟨by simp [Acc.make, Acc.next, Acc.had], rfl, rfl⟩
theorem node_in (ly : ELay l n sz) {a j : Int} (ha : 1 ≤ a ∧ a ≤ l.c.nodes) (hj : 0 ≤ j ∧ j < 8) : 0 ≤ nodeAt l a j ∧ nodeAt l a j < sz := by
  have := ly.nd; have := ly.nn; have := ly.er; have := ly.rv; have := ly.ns; have := ly.ce
  rw [nodeAt_of l ha hj]
  omega
theorem resv_in (ly : ELay l n sz) {k i : Nat} (hk : k < n) (hi : i < 3) : 0 ≤ resvAt l (k : Int) (i : Int) ∧ resvAt l (k : Int) (i : Int) < sz := by
  have := ly.nd; have := ly.nn; have := ly.er; have := ly.rv; have := ly.ns; have := ly.ce; have := ly.bd hk
  rw [ly.resv_of hk hi]
  omega
theorem cell_in (ly : ELay l n sz) : 0 ≤ cellAt l 0 ∧ cellAt l 0 < sz := by
  have := ly.nd; have := ly.nn; have := ly.er; have := ly.rv; have := ly.ns; have := ly.ce
  rw [ly.cell_of]
  omega
theorem era_in (ly : ELay l n sz) : (0 ≤ l.era ∧ l.era < sz) ∧ (0 ≤ l.free ∧ l.free < sz) := by
  have := ly.nd; have := ly.nn; have := ly.er; have := ly.rv; have := ly.ns; have := ly.ce; have := ly.fr
  omega
/-- What an access is to keep. -/
structure Goes (l : Ly) (n sz T : Nat) (m : List Int) (ss : Nat → SA) (who : Nat) (gone : Gone) (md : Md) (a : Acc) : Prop where
  err : a.err m.length = 0
  ei : ∃ L' went', EI l n sz (T + 1) (a.make m) (upd' ss who (md.add l gone (a.had m, a.ok (a.had m)), gone)) L' went'
  mu : mu l (a.make m) gone (md.add l gone (a.had m, a.ok (a.had m))) + 1 ≤ mu l m gone md
  cnt : gcnt gone (md.add l gone (a.had m, a.ok (a.had m))) ≤ gcnt gone md
  rd : ∀ x k v, md = .rd x k v → a.had m ≠ 0 ∧ (k = 2 → a.had m = v)
  sw : ∀ x, md = .swp x → a.had m ≠ 0 → 1 ≤ a.had m ∧ a.had m ≤ l.c.nodes
theorem goes_load {md md' : Md} {c r : Int} (hc : 0 ≤ c ∧ c < sz) (hml : m.length = sz) (hr : m.getD c.toNat 0 = r) (hadd : md.add l gone (r, true) = md')
    (ei : ∃ L' went', EI l n sz (T + 1) m (upd' ss who (md', gone)) L' went') (h1 : mu l m gone md' + 1 ≤ mu l m gone md) (h2 : gcnt gone md' ≤ gcnt gone md)
    (rd : ∀ x k v, md = .rd x k v → r ≠ 0 ∧ (k = 2 → r = v)) (sw : ∀ x, md ≠ .swp x) : Goes l n sz T m ss who gone md ⟨1, c, 0, 0⟩ := by
  obtain ⟨a1, a2, a3⟩ := acc_load (c := c) (m := m)
  rw [hr] at a3
  rw [a3] at a2
  refine ⟨acc_err (by rw [hml]; exact hc) (.inl ⟨rfl, rfl, rfl⟩), ?_, ?_, ?_, by rw [a3]; exact rd, fun x e => absurd e (sw x)⟩
  · rw [a1, a3, a2, hadd]; exact ei
  · rw [a1, a3, a2, hadd]; exact h1
  · rw [a3, a2, hadd]; exact h2
theorem goes_store {md md' : Md} {c v : Int} (hc : 0 ≤ c ∧ c < sz) (hml : m.length = sz) (hadd : ∀ r, md.add l gone (r, true) = md')
    (ei : ∃ L' went', EI l n sz (T + 1) (m.set c.toNat v) (upd' ss who (md', gone)) L' went') (h1 : mu l (m.set c.toNat v) gone md' + 1 ≤ mu l m gone md) (h2 : gcnt gone md' ≤ gcnt gone md)
    (rd : ∀ x k v, md ≠ .rd x k v) (sw : ∀ x, md ≠ .swp x) : Goes l n sz T m ss who gone md ⟨2, c, 0, v⟩ := by
  obtain ⟨a1, a2⟩ := acc_store (c := c) (v := v) (m := m)
  refine ⟨acc_err (by rw [hml]; exact hc) (.inr (.inl ⟨rfl, rfl⟩)), ?_, ?_, ?_, fun x k v e => absurd e (rd x k v), fun x e => absurd e (sw x)⟩
  · rw [a1, a2, hadd]; exact ei
  · rw [a1, a2, hadd]; exact h1
  · rw [a2, hadd]; exact h2
theorem go_tk (h : EI l n sz T m ss L went) (ly : ELay l n sz) (hT : T ≤ 100000) (hw : who < n) {p : Ph} (hs : ss who = (.tk p, gone)) {a : Acc} (ha : toAcc (p.ans l 0 0) = some a) : Goes l n sz T m ss who gone (.tk p) a := by
  have ho : MdOk l n m went (.tk p) := ok_of h hw hs
  have hwt := h.wt
  obtain ⟨i1, i2⟩ := h.idx ly (by omega)
  have i3 := h.head ly
  have hF : m.getD l.free.toNat 0 = freeOf l m := rfl
  have hin := era_in ly
  cases p with
  | t0 =>
    injection ha with ha
    subst ha
    refine goes_load hin.2 h.ml hF (md' := .tk (if idxOf (freeOf l m) = 0 then .tz else .t1 (freeOf l m))) rfl ⟨L, went, ?_⟩ ?_ (Nat.le_refl _) (fun _ _ _ e => by cases e) (fun _ e => by cases e)
    · split
      · exact tk_look h hw hs rfl trivial rfl (fun _ _ e => by cases e) (fun _ e => by cases e)
      · exact tk_look h hw hs rfl ⟨by omega, by omega, fun _ => rfl⟩ rfl (fun _ _ e => by cases e) (fun _ e => by cases e)
    · split <;> (simp [mu, phMu] <;> omega)
  | t1 x =>
    injection ha with ha
    subst ha
    obtain ⟨e1, e2, e3⟩ := ho.1
    refine goes_load (node_in ly e1 (by omega)) h.ml rfl (md' := .tk (.t2 x (linkOf l m (idxOf x)))) rfl ⟨L, went, ?_⟩ ?_ (Nat.le_refl _) (fun _ _ _ e => by cases e) (fun _ e => by cases e)
    · exact tk_look h hw hs rfl ⟨e1, h.links _ e1, e2, fun e => ⟨e3 e, rfl⟩⟩ rfl (fun _ _ e => by cases e) (fun _ e => by cases e)
    · simp only [mu, phMu]; split <;> omega
  | t2 x y =>
    injection ha with ha
    subst ha
    obtain ⟨e1, e2, e3, e4⟩ := ho.1
    obtain ⟨a1, a2, a3⟩ := acc_cas (c := l.free) (o := x) (v := turnW x y) (m := m)
    rw [hF] at a1 a2 a3
    have herr : (⟨3, l.free, x, turnW x y⟩ : Acc).err m.length = 0 := acc_err (by rw [h.ml]; exact hin.2) (.inr (.inr rfl))
    by_cases q : freeOf l m = x
    · rw [if_pos q] at a3
      rw [decide_eq_true q] at a2
      have e : Md.add l gone (freeOf l m, true) (.tk (.t2 x y)) = .tk (.t3 x) := rfl
      obtain ⟨L', hL⟩ := tk_cas h ly (by omega) hw hs q.symm
      refine ⟨herr, ?_, ?_, ?_, (fun _ _ _ e => by cases e), (fun _ e => by cases e)⟩
      · rw [a1, a2, a3, e]; exact ⟨L', went + 1, hL⟩
      · rw [a1, a2, e]; (simp [mu, phMu, q] <;> omega)
      · rw [a1, a2, e]; exact Nat.le_refl _
    · rw [if_neg q] at a3
      rw [decide_eq_false q] at a2
      have e : Md.add l gone (freeOf l m, false) (.tk (.t2 x y)) = .tk .t0 := rfl
      refine ⟨herr, ?_, ?_, ?_, (fun _ _ _ e => by cases e), (fun _ e => by cases e)⟩
      · rw [a1, a2, a3, e]; exact ⟨L, went, tk_look h hw hs rfl trivial rfl (fun _ _ e => by cases e) (fun _ e => by cases e)⟩
      · have q2 : ¬ x = freeOf l m := fun q' => q q'.symm
        rw [a1, a2, e]; (simp [mu, phMu, q2] <;> omega)
      · rw [a1, a2, e]; exact Nat.le_refl _
  | t3 x =>
    injection ha with ha
    subst ha
    refine goes_load hin.1 h.ml rfl (md' := .tk (.t4 x (eraOf l m))) rfl ⟨L, went, ?_⟩ (by (simp [mu, phMu] <;> omega)) (Nat.le_refl _) (fun _ _ _ e => by cases e) (fun _ e => by cases e)
    exact tk_look h hw hs rfl ho.1 rfl (fun _ _ e => by injection e with e1 e2; rw [← e2]; exact Int.le_refl _) (fun _ e => by cases e)
  | t4 x u =>
    injection ha with ha
    subst ha
    exact goes_store (node_in ly ho.1 (by omega)) h.ml (md' := .tk (.t5 x)) (fun _ => rfl) ⟨L, went, tk_birth h ly hw hs⟩ (by (simp [mu, phMu] <;> omega)) (Nat.le_refl _) (fun _ _ _ e => by cases e) (fun _ e => by cases e)
  | t5 x => cases ha
  | tz => cases ha
  | g0 => exact absurd ho.2.1 (by simp [Ph.isT])
  | g1 x => exact absurd ho.2.1 (by simp [Ph.isT])
  | g2 x => exact absurd ho.2.1 (by simp [Ph.isT])
  | g3 => cases ha
  | no => cases ha
theorem go_rg (h : EI l n sz T m ss L went) (ly : ELay l n sz) (hT : T ≤ 100000) (hw : who < n) {held : List Int} {s rest : Gone} {g : Int × Int} {p : Ph} (hs : ss who = (.rg held s g rest p, gone)) {a : Acc} (ha : toAcc (p.ans l g.1 0) = some a) : Goes l n sz T m ss who gone (.rg held s g rest p) a := by
  have ho : MdOk l n m went (.rg held s g rest p) := ok_of h hw hs
  have hwt := h.wt
  obtain ⟨i1, i2⟩ := h.idx ly (by omega)
  have i3 := h.head ly
  have hF : m.getD l.free.toNat 0 = freeOf l m := rfl
  have hin := era_in ly
  obtain ⟨r1, -⟩ := rg_own h hw hs
  cases p with
  | g0 =>
    injection ha with ha
    subst ha
    refine goes_load hin.2 h.ml hF (md' := .rg held s g rest (.g1 (freeOf l m))) rfl ⟨L, went, ?_⟩ (by (simp [mu, phMu] <;> omega)) (Nat.le_refl _) (fun _ _ _ e => by cases e) (fun _ e => by cases e)
    exact rg_look h hw hs ⟨r1, by omega, by omega, fun _ => rfl⟩ rfl (fun e => by cases e)
  | g1 x =>
    injection ha with ha
    subst ha
    have hf : freeOf l (m.set (nodeAt l g.1 7).toNat (idxOf x)) = freeOf l m := by
      have := ly.nd; have := ly.nn; have := ly.er; have := ly.rv; have := ly.ns; have := ly.ce; have := ly.fr
      rw [nodeAt_of l r1 (by omega)]
      exact free_set ly h.ml (by omega) (by omega)
    refine goes_store (node_in ly r1 (by omega)) h.ml (md' := .rg held s g rest (.g2 x)) (fun _ => rfl) ⟨L, went, rg_link h ly (by omega) hw hs⟩ ?_ (Nat.le_refl _) (fun _ _ _ e => by cases e) (fun _ e => by cases e)
    simp only [mu, phMu]
    rw [hf]
    split <;> omega
  | g2 x =>
    injection ha with ha
    subst ha
    obtain ⟨a1, a2, a3⟩ := acc_cas (c := l.free) (o := x) (v := turnW x g.1) (m := m)
    rw [hF] at a1 a2 a3
    have herr : (⟨3, l.free, x, turnW x g.1⟩ : Acc).err m.length = 0 := acc_err (by rw [h.ml]; exact hin.2) (.inr (.inr rfl))
    by_cases q : freeOf l m = x
    · rw [if_pos q] at a3
      rw [decide_eq_true q] at a2
      have e : Md.add l gone (freeOf l m, true) (.rg held s g rest (.g2 x)) = siftD held s rest := rfl
      obtain ⟨L', hL⟩ := rg_cas h ly (by omega) hw hs q.symm
      refine ⟨herr, ?_, ?_, ?_, (fun _ _ _ e => by cases e), (fun _ e => by cases e)⟩
      · rw [a1, a2, a3, e]; exact ⟨L', went + 1, hL⟩
      · rw [a1, a2, e, siftD_mu]; (simp [mu, phMu, q] <;> omega)
      · rw [a1, a2, e, siftD_gcnt]; simp [gcnt]
    · rw [if_neg q] at a3
      rw [decide_eq_false q] at a2
      have e : Md.add l gone (freeOf l m, false) (.rg held s g rest (.g2 x)) = .rg held s g rest .g0 := rfl
      refine ⟨herr, ?_, ?_, ?_, (fun _ _ _ e => by cases e), (fun _ e => by cases e)⟩
      · rw [a1, a2, a3, e]; exact ⟨L, went, rg_look h hw hs r1 rfl (fun e => by cases e)⟩
      · have q2 : ¬ x = freeOf l m := fun q' => q q'.symm
        rw [a1, a2, e]; (simp [mu, phMu, q2] <;> omega)
      · rw [a1, a2, e]; exact Nat.le_refl _
  | g3 => cases ha
  | no => cases ha
  | tz => cases ha
  | t5 x => cases ha
  | t0 => exact absurd ho.2.2.1 (by simp [Ph.isG])
  | t1 x => exact absurd ho.2.2.1 (by simp [Ph.isG])
  | t2 x y => exact absurd ho.2.2.1 (by simp [Ph.isG])
  | t3 x => exact absurd ho.2.2.1 (by simp [Ph.isG])
  | t4 x u => exact absurd ho.2.2.1 (by simp [Ph.isG])
theorem era_set_resv (ly : ELay l n sz) (hml : m.length = sz) {k i : Nat} (hk : k < n) (hi : i < 3) (v : Int) : eraOf l (m.set (resvAt l (k : Int) (i : Int)).toNat v) = eraOf l m := by
  have hr := resv_in ly hk hi
  have := ly.resv_of hk hi
  have := ly.er
  exact era_set ly hml (by omega) (by omega)
/-- Each access. -/
theorem go_ask (h : EI l n sz T m ss L went) (ly : ELay l n sz) (hT : T ≤ 100000) (hw : who < n) {md : Md} (hs : ss who = (md, gone)) {w : Nat} {a : Acc} (ha : md.ask l who w = some a) : Goes l n sz T m ss who gone md a := by
  have hin := era_in ly
  have hera := h.era
  have hns := ly.ns
  cases md with
  | idle => cases ha
  | tk p => exact go_tk h ly hT hw hs ha
  | put x =>
    injection ha with ha
    subst ha
    obtain ⟨q1, q2⟩ := put_cont h ly hw (u := 1000 * (who : Int) + w + 1) (by omega) hs
    exact goes_store ⟨q1.1, q1.2⟩ h.ml (md' := .swp x) (fun _ => rfl) ⟨L, went, q2⟩ (by (simp [mu] <;> omega)) (Nat.le_refl _) (fun _ _ _ e => by cases e) (fun _ e => by cases e)
  | swp x =>
    injection ha with ha
    subst ha
    obtain ⟨a1, a2, a3⟩ := acc_swap (c := cellAt l 0) (v := x) (m := m)
    have hc : m.getD (cellAt l 0).toNat 0 = cellOf l m := rfl
    rw [hc] at a3
    rw [a3] at a2
    have e : Md.add l gone (cellOf l m, true) (.swp x) = if cellOf l m = 0 then .idle else .r0 (cellOf l m) := rfl
    have e2 := swp_cell h ly hw hs
    rw [← ly.cell_of] at e2
    refine ⟨acc_err5 (by rw [h.ml]; exact cell_in ly) ⟨.inr rfl, rfl⟩, ?_, ?_, ?_, (fun _ _ _ e => by cases e), fun _ _ hne => ?_⟩
    · rw [a1, a3, a2, e]; exact ⟨L, went, e2⟩
    · rw [a1, a3, a2, e]
      split <;> (simp [mu] <;> omega)
    · rw [a3, a2, e]
      split <;> simp [gcnt]
    · rw [a3] at hne ⊢
      exact h.cell_range hne
  | r0 x =>
    injection ha with ha
    subst ha
    exact goes_load hin.1 h.ml rfl (md' := .r1 x (eraOf l m)) rfl ⟨L, went, r0_look h hw hs⟩ (by (simp [mu] <;> omega)) (Nat.le_refl _) (fun _ _ _ e => by cases e) (fun _ e => by cases e)
  | r1 x t =>
    injection ha with ha
    subst ha
    obtain ⟨a1, a2, a3⟩ := acc_add (c := l.era) (v := 1) (m := m)
    have hc : m.getD l.era.toNat 0 = eraOf l m := rfl
    rw [hc] at a3 a1
    rw [wrapE_in (by omega) (by omega)] at a1
    rw [a3] at a2
    have e : Md.add l gone (eraOf l m, true) (.r1 x t) = if 2 * l.c.seats ≤ ((gone ++ [(x, t)]).length : Int) then .rs (gone ++ [(x, t)]) [] else .rz (gone ++ [(x, t)]) := rfl
    refine ⟨acc_err5 (by rw [h.ml]; exact hin.1) ⟨.inl rfl, rfl⟩, ?_, ?_, ?_, (fun _ _ _ e => by cases e), (fun _ e => by cases e)⟩
    · rw [a1, a3, a2, e]; exact ⟨L, went, r1_add h ly hw hs⟩
    · rw [a1, a3, a2, e]
      split <;> (simp [mu] <;> omega)
    · rw [a3, a2, e]
      split <;> simp [gcnt]
  | rs g held =>
    injection ha with ha
    subst ha
    have hl : held.length < 3 * n := ok_of h hw hs
    have e := rs_look h ly hw hs
    refine goes_load (resv_in ly (k := held.length / 3) (i := held.length % 3) (by omega) (by omega)) h.ml rfl (md' := if ((held ++ [resvOf l m (held.length / 3) (held.length % 3)]).length : Int) < 3 * l.c.seats then .rs g (held ++ [resvOf l m (held.length / 3) (held.length % 3)]) else siftD (held ++ [resvOf l m (held.length / 3) (held.length % 3)]) [] g) rfl ⟨L, went, e⟩ ?_ ?_ (fun _ _ _ e => by cases e) (fun _ e => by cases e)
    · split
      · rename_i hlt
        simp only [List.length_append, List.length_singleton] at hlt
        simp only [mu, List.length_append, List.length_singleton]
        omega
      · rw [siftD_mu]
        simp only [mu]
        omega
    · split
      · exact Nat.le_refl _
      · rw [siftD_gcnt]; simp [gcnt]
  | rb held s g rest =>
    injection ha with ha
    subst ha
    have hgr : 1 ≤ g.1 ∧ g.1 ≤ l.c.nodes := (h.own_range hw (v := g.1) (by rw [hs]; simp [own, Md.us, Md.sp, Md.one, Md.pr])).1
    refine goes_load (node_in ly hgr (by omega)) h.ml rfl (md' := if heldB held (birthOf l m g.1) g.2 then siftD held (s ++ [g]) rest else .rg held s g rest .g0) rfl ⟨L, went, rb_look h hw hs⟩ ?_ ?_ (fun _ _ _ e => by cases e) (fun _ e => by cases e)
    · split
      · rw [siftD_mu]; simp only [mu]; omega
      · simp only [mu, phMu]; omega
    · split
      · rw [siftD_gcnt]; simp [gcnt]
      · exact Nat.le_refl _
  | rg held s g rest p => exact go_rg h ly hT hw hs ha
  | rz g => cases ha
  | gu has =>
    injection ha with ha
    subst ha
    refine goes_load (cell_in ly) h.ml rfl (md' := .gv has (cellOf l m)) rfl ⟨L, went, gu_look h hw hs⟩ ?_ (Nat.le_refl _) (fun _ _ _ e => by cases e) (fun _ e => by cases e)
    simp only [mu]
    split <;> omega
  | gv has val =>
    injection ha with ha
    subst ha
    refine goes_load hin.1 h.ml rfl (md' := if eraOf l m = has then .gz val else .gs (eraOf l m)) rfl ⟨L, went, gv_look h hw hs⟩ ?_ ?_ (fun _ _ _ e => by cases e) (fun _ e => by cases e)
    · by_cases q : eraOf l m = has
      · rw [if_pos q]; (simp [mu, q] <;> omega)
      · have q2 : ¬ has = eraOf l m := fun q' => q q'.symm
        rw [if_neg q]; (simp [mu, q2] <;> omega)
    · split <;> exact Nat.le_refl _
  | gs e =>
    injection ha with ha
    subst ha
    have he := era_set_resv ly h.ml hw (i := 0) (by omega) e
    refine goes_store (resv_in ly hw (i := 0) (by omega)) h.ml (md' := .gu e) (fun _ => rfl) ⟨L, went, gs_store h ly hw hs⟩ ?_ (Nat.le_refl _) (fun _ _ _ e => by cases e) (fun _ e => by cases e)
    simp only [mu]
    rw [show (resvAt l (who : Int) 0) = resvAt l (who : Int) ((0 : Nat) : Int) from rfl, he]
    split <;> omega
  | gz val => cases ha
  | rd x k v =>
    injection ha with ha
    subst ha
    obtain ⟨q1, q2⟩ := rd_look h hw hs
    have ho : MdOk l n m went (.rd x k v) := ok_of h hw hs
    refine goes_load (node_in ly (h.rd_range hw (by rw [hs])) (by omega)) h.ml rfl (md' := if k = 1 then .rd x 2 (contOf l m x) else .dr 0 x) rfl ⟨L, went, q2⟩ ?_ ?_ (fun _ _ _ e => ?_) (fun _ e => by cases e)
    · by_cases e : k = 1
      · rw [if_pos e]; (simp [mu, e] <;> omega)
      · rw [if_neg e]; (simp [mu, e] <;> omega)
    · split <;> exact Nat.le_refl _
    · injection e with e1 e2 e3
      subst e1 e2 e3
      exact q1
  | dr i x =>
    simp only [Md.ask] at ha
    split at ha
    · rename_i hi
      injection ha with ha
      subst ha
      exact goes_store (resv_in ly hw hi) h.ml (md' := .dr (i + 1) x) (fun _ => rfl) ⟨L, went, dr_store h ly hw hi hs⟩ (by simp only [mu]; omega) (Nat.le_refl _) (fun _ _ _ e => by cases e) (fun _ e => by cases e)
    · cases ha
/-- Each telling. -/
theorem go_tell (h : EI l n sz T m ss L went) (hw : who < n) {md : Md} (hs : ss who = (md, gone)) {w : Nat} (ha : md.ask l who w = none) (hne : md ≠ .idle) :
    EI l n sz (T + 1) m (upd' ss who (md.tell gone)) L went ∧ mu l m (md.tell gone).2 (md.tell gone).1 + 1 ≤ mu l m gone md ∧ gcnt (md.tell gone).2 (md.tell gone).1 ≤ gcnt gone md ∧ ((∃ x, md = .tk (.t5 x)) ∨ md = .tk .tz ∨ (∃ g, md = .rz g) ∨ (∃ v, md = .gz v) ∨ ∃ i x, md = .dr i x ∧ ¬ i < 3) := by
  cases md with
  | idle => exact absurd rfl hne
  | tk p =>
    have ho : MdOk l n m went (.tk p) := ok_of h hw hs
    cases p with
    | t5 x => exact ⟨tk_told h hw hs, by (simp [mu, Md.tell, phMu] <;> omega), Nat.le_refl _, .inl ⟨x, rfl⟩⟩
    | tz => exact ⟨tz_told h hw hs, by (simp [mu, Md.tell, phMu] <;> omega), by simp [gcnt, Md.tell], .inr (.inl rfl)⟩
    | g3 => exact absurd ho.2.1 (by simp [Ph.isT])
    | no => exact absurd ho.2.1 (by simp [Ph.isT])
    | t0 => cases ha
    | t1 x => cases ha
    | t2 x y => cases ha
    | t3 x => cases ha
    | t4 x u => cases ha
    | g0 => cases ha
    | g1 x => cases ha
    | g2 x => cases ha
  | rg held s g rest p =>
    have ho : MdOk l n m went (.rg held s g rest p) := ok_of h hw hs
    cases p with
    | g3 => exact absurd rfl ho.2.2.2
    | t5 x => exact absurd ho.2.2.1 (by simp [Ph.isG])
    | tz => exact absurd ho.2.2.1 (by simp [Ph.isG])
    | no => exact absurd ho.2.2.1 (by simp [Ph.isG])
    | t0 => cases ha
    | t1 x => cases ha
    | t2 x y => cases ha
    | t3 x => cases ha
    | t4 x u => cases ha
    | g0 => cases ha
    | g1 x => cases ha
    | g2 x => cases ha
  | rz g => exact ⟨rz_told h hw hs, by (simp [mu, Md.tell] <;> omega), Nat.le_refl _, .inr (.inr (.inl ⟨g, rfl⟩))⟩
  | gz v =>
    refine ⟨gz_told h hw hs, ?_, ?_, .inr (.inr (.inr (.inl ⟨v, rfl⟩)))⟩
    · simp only [Md.tell]; split <;> (simp [mu] <;> omega)
    · simp only [Md.tell]; split <;> exact Nat.le_refl _
  | dr i x =>
    simp only [Md.ask] at ha
    split at ha
    · cases ha
    · rename_i hi
      have ho : i ≤ 3 := ok_of h hw hs
      refine ⟨dr_told h hw hi hs, ?_, Nat.le_refl _, .inr (.inr (.inr (.inr ⟨i, x, rfl, hi⟩)))⟩
      simp only [Md.tell, mu]
      omega
  | _ => cases ha
end
end Go.Proofs.Ytgjdjgainjedhaa
namespace Go.Proofs.Ytgjdjgainjedhaa
open Go.RowKit
set_option linter.unusedVariables false

def reMd (n : Int) : EPh → Md
  | .gu _ has => .gu has
  | .gv _ has val => .gv has val
  | .gs _ e => .gs e
  | .gz v _ => .gz v
  | .dr i => .dr i n
  | .r0 => .r0 n
  | .r1 t => .r1 n t
  | .rs g h => .rs g h
  | .rb h s g r => .rb h s g r
  | .rg h s g r L => .rg h s g r (gPh L)
  | .rz g => .rz g
  | .no => .idle
def EPh.cls : EPh → Nat
  | .gu _ _ | .gv _ _ _ | .gs _ _ | .gz _ _ => 1
  | .dr _ => 2
  | .no => 0
  | _ => 3
theorem siftN_md {n : Int} {h : List Int} {s g : Gone} : reMd n (siftN h s g) = siftD h s g ∧ (siftN h s g).cls = 3 := by cases g <;> exact ⟨rfl, rfl⟩
theorem add_md (l : Ly) (n a : Int) (gone : Gone) (r : Int × Bool) (q : EPh) (h0 : q.cls ≠ 0) (h2 : ∀ i, q = .dr i → i < 3) (h3 : q.cls = 3 → a = n) :
    reMd n (q.add l a gone r) = (reMd n q).add l gone r ∧ (q.add l a gone r).cls = q.cls := by
  cases q with
  | gu i has => exact ⟨rfl, rfl⟩
  | gv i has val =>
    simp only [EPh.add, Md.add]
    by_cases c : r.1 = has
    · simp only [if_pos c, reMd]; exact ⟨trivial, rfl⟩
    · simp only [if_neg c, reMd]; exact ⟨trivial, rfl⟩
  | gs i e => exact ⟨rfl, rfl⟩
  | gz v p => exact ⟨rfl, rfl⟩
  | dr i =>
    have := h2 i rfl
    simp only [EPh.add, reMd, Md.add]
    rw [if_pos this]
    exact ⟨rfl, rfl⟩
  | r0 => exact ⟨rfl, rfl⟩
  | r1 t =>
    have := h3 rfl
    subst this
    simp only [EPh.add, Md.add]
    by_cases c : 2 * l.c.seats ≤ ((gone ++ [(a, t)]).length : Int)
    · simp only [if_pos c, reMd]; exact ⟨trivial, rfl⟩
    · simp only [if_neg c, reMd]; exact ⟨trivial, rfl⟩
  | rs g h =>
    simp only [EPh.add, Md.add]
    by_cases c : ((h ++ [r.1]).length : Int) < 3 * l.c.seats
    · simp only [if_pos c, reMd]; exact ⟨trivial, rfl⟩
    · simp only [if_neg c, reMd]; exact siftN_md
  | rb h s g rest =>
    simp only [EPh.add, Md.add]
    by_cases c : heldB h r.1 g.2 = true
    · simp only [if_pos c, reMd]; exact siftN_md
    · simp only [if_neg c, reMd]; exact ⟨rfl, rfl⟩
  | rg h s g rest L =>
    obtain ⟨pt, e⟩ := give_ans l g.1 (L ++ [r]) 0
    have hg := gPh_isG (L ++ [r])
    simp only [EPh.add, reMd, Md.add]
    rw [e, ← gPh_add]
    cases q : gPh (L ++ [r]) <;> rw [q] at hg <;> simp only [Ph.isG] at hg
    all_goals first | (cases hg; done) | skip
    · simp only [Ph.ans, q]; exact ⟨trivial, rfl⟩
    · simp only [Ph.ans, q]; exact ⟨trivial, rfl⟩
    · simp only [Ph.ans, q]; exact ⟨trivial, rfl⟩
    · simp only [Ph.ans]; exact siftN_md
  | rz g => exact ⟨rfl, rfl⟩
  | no => exact absurd rfl h0
theorem ans_acc (l : Ly) (a pt : Int) (p : Ph) : (∃ k c o v, p.ans l a pt = .ask k c o v ∧ toAcc (p.ans l a 0) = some ⟨k, c, o, v⟩) ∨ (∃ val is err pt', p.ans l a pt = .out val is err pt' ∧ toAcc (p.ans l a 0) = none) := by
  cases p <;> first | exact .inl ⟨_, _, _, _, rfl, rfl⟩ | exact .inr ⟨_, _, _, _, rfl, rfl⟩
theorem ask_md (l : Ly) (n : Int) (who w : Nat) (op : Opr) (gone : Gone) (q : EPh) (h0 : q.cls ≠ 0) (h1 : q.cls = 1 → op.b = cellAt l 0 ∧ op.a = 0) :
    (∃ k c o v, q.ans l who op gone = .ask k c o v ∧ (reMd n q).ask l who w = some ⟨k, c, o, v⟩) ∨ (∃ val is err pt g, q.ans l who op gone = .out val is err pt g ∧ (reMd n q).ask l who w = none) := by
  cases q with
  | gu i has => exact .inl ⟨_, _, _, _, rfl, by rw [(h1 rfl).1]; rfl⟩
  | gv i has val => exact .inl ⟨_, _, _, _, rfl, rfl⟩
  | gs i e => exact .inl ⟨_, _, _, _, rfl, by rw [(h1 rfl).2]; rfl⟩
  | gz v p => exact .inr ⟨_, _, _, _, _, rfl, rfl⟩
  | dr i =>
    simp only [EPh.ans, reMd, Md.ask]
    split
    · exact .inl ⟨_, _, _, _, rfl, rfl⟩
    · exact .inr ⟨_, _, _, _, _, rfl, rfl⟩
  | r0 => exact .inl ⟨_, _, _, _, rfl, rfl⟩
  | r1 t => exact .inl ⟨_, _, _, _, rfl, rfl⟩
  | rs g h => exact .inl ⟨_, _, _, _, rfl, rfl⟩
  | rb h s g rest => exact .inl ⟨_, _, _, _, rfl, rfl⟩
  | rg h s g rest L =>
    obtain ⟨pt, e⟩ := give_ans l g.1 L 0
    simp only [EPh.ans, reMd, Md.ask]
    rw [e]
    rcases ans_acc l g.1 pt (gPh L) with ⟨k, c, o, v, e1, e2⟩ | ⟨val, is, err, pt', e1, e2⟩
    · rw [e1, e2]; exact .inl ⟨_, _, _, _, rfl, rfl⟩
    · rw [e1, e2]; exact .inr ⟨_, _, _, _, _, rfl, rfl⟩
  | rz g => exact .inr ⟨_, _, _, _, _, rfl, rfl⟩
  | no => exact absurd rfl h0
/-- A seat is at this place. -/
inductive Is (l : Ly) (w : Nat) : SeatE → Md → Prop
  | idle {s : SeatE} {md : Md} (b : s.busy = false) (h : md = .idle) : Is l w s md
  | tk {s : SeatE} {md : Md} (b : s.busy = true) (e : w % 2 = 0) (a : s.at_ = 0) (h : md = .tk (tPh s.log)) : Is l w s md
  | put {s : SeatE} {md : Md} (b : s.busy = true) (e : w % 2 = 0) (a : s.at_ = 1) (lg : s.log = []) (h : md = .put s.node) : Is l w s md
  | swp {s : SeatE} {md : Md} (b : s.busy = true) (e : w % 2 = 0) (a : s.at_ = 2) (lg : s.log = []) (h : md = .swp s.node) : Is l w s md
  | ret {s : SeatE} {md : Md} (b : s.busy = true) (e : w % 2 = 0) (a : s.at_ = 3) (c : (ePh l ⟨3, 0, s.node, 0⟩ s.gone s.log).cls = 3) (h : md = reMd s.node (ePh l ⟨3, 0, s.node, 0⟩ s.gone s.log)) : Is l w s md
  | gd {s : SeatE} {md : Md} (b : s.busy = true) (e : ¬ w % 2 = 0) (a : s.at_ = 0) (c : (ePh l ⟨1, 0, 0, cellAt l 0⟩ s.gone s.log).cls = 1) (h : md = reMd 0 (ePh l ⟨1, 0, 0, cellAt l 0⟩ s.gone s.log)) : Is l w s md
  | rd {s : SeatE} {md : Md} (k : Nat) (v : Int) (b : s.busy = true) (e : ¬ w % 2 = 0) (a : s.at_ = k) (hk : k = 1 ∨ k = 2) (lg : s.log = []) (hv : k = 2 → s.read = v) (h : md = .rd s.node k v) : Is l w s md
  | dr {s : SeatE} {md : Md} (b : s.busy = true) (e : ¬ w % 2 = 0) (a : s.at_ = 3) (c : (ePh l ⟨2, 0, 0, 0⟩ s.gone s.log).cls = 2) (h : md = reMd s.node (ePh l ⟨2, 0, 0, 0⟩ s.gone s.log)) : Is l w s md
def stepE (l : Ly) (who w : Nat) (x : Stp3) : Stp3 := if w % 2 = 0 then writeM l who w x else lookM l who x
theorem acc_here {m : List Int} {a : Acc} (h : a.err m.length = 0) : accM m a = (a.make m, (a.had m, a.ok (a.had m)), true) := by
  unfold accM
  rw [if_pos h]
theorem progM_ask {l : Ly} {own : Bool} {who : Nat} {x : Stp3} {k c o v : Int} (h : (if own then eraR l who x.s.op x.s.gone x.s.log else liftA x.s.gone (nextR l x.s.op x.s.log)) = .ask k c o v) (he : (⟨k, c, o, v⟩ : Acc).err x.m.length = 0) :
    progM l own who x = (⟨(⟨k, c, o, v⟩ : Acc).make x.m, { x.s with log := x.s.log ++ [((⟨k, c, o, v⟩ : Acc).had x.m, (⟨k, c, o, v⟩ : Acc).ok ((⟨k, c, o, v⟩ : Acc).had x.m))] }, x.bad⟩, none) := by
  unfold progM
  rw [h]
  simp only [acc_here he, if_true]
theorem progM_out {l : Ly} {own : Bool} {who : Nat} {x : Stp3} {val err pt : Int} {is : Bool} {g : Gone} (h : (if own then eraR l who x.s.op x.s.gone x.s.log else liftA x.s.gone (nextR l x.s.op x.s.log)) = .out val is err pt g) :
    progM l own who x = (⟨x.m, { x.s with log := [] }, x.bad⟩, some (val, is, g)) := by
  unfold progM
  rw [h]
theorem nextR_take (l : Ly) (log : Log) : ∃ pt, nextR l ⟨1, 0, 0, 0⟩ log = (tPh log).ans l 0 pt := take_ans l 0 log 0
theorem start_r (l : Ly) {x : Int} (h : 1 ≤ x ∧ x ≤ l.c.nodes) (gone : Gone) : ePh l ⟨3, 0, x, 0⟩ gone [] = .r0 := by
  simp [ePh, startE, mayE, h.1, h.2]
theorem start_d (l : Ly) (gone : Gone) : ePh l ⟨2, 0, 0, 0⟩ gone [] = .dr 0 := by
  simp [ePh, startE, mayE]
theorem start_g (l : Ly) (h : 0 ≤ cellAt l 0 ∧ cellAt l 0 < l.size) (gone : Gone) : ePh l ⟨1, 0, 0, cellAt l 0⟩ gone [] = .gu 0 0 := by
  simp [ePh, startE, mayE, h.1, h.2]
section
variable {l : Ly} {who w : Nat} {s : SeatE} {md : Md} {m : List Int} {bad : Bool}
/-- What a step is to be. -/
structure StepIs (l : Ly) (w : Nat) (s : SeatE) (m' : List Int) (bad : Bool) (md' : Md) (gone' : Gone) (y : Stp3) : Prop where
  m : y.m = m'
  bad : y.bad = bad
  is : Is l w y.s md'
  gone : y.s.gone = gone'
  next : y.s.next = s.next
  log : y.s.log.length ≤ s.log.length + 1
  at_ : y.s.at_ ≤ 3
  node : y.s.node = s.node ∨ y.s.node ≤ 65535 ∨ y.s.node ≤ l.c.nodes ∨ ∃ k v, md' = .rd y.s.node k v
theorem stepW (e : w % 2 = 0) (x : Stp3) : stepE l who w x = writeM l who w x := by unfold stepE; rw [if_pos e]
theorem stepK (e : ¬ w % 2 = 0) (x : Stp3) : stepE l who w x = lookM l who x := by unfold stepE; rw [if_neg e]
theorem wr1 {x : Stp3} {wv : Nat} (h : x.s.at_ = 1) : writeM l who wv x = ⟨(accM x.m ⟨2, nodeAt l x.s.node 1, 0, 1000 * (who : Int) + wv + 1⟩).1, { x.s with at_ := 2 }, x.bad || !(accM x.m ⟨2, nodeAt l x.s.node 1, 0, 1000 * (who : Int) + wv + 1⟩).2.2⟩ := by unfold writeM; rw [h]; rfl
theorem wr2 {x : Stp3} {wv : Nat} (h : x.s.at_ = 2) : writeM l who wv x = ⟨(accM x.m ⟨5, cellAt l 0, 0, x.s.node⟩).1, { x.s with node := (accM x.m ⟨5, cellAt l 0, 0, x.s.node⟩).2.1.1, at_ := 3, busy := decide ((accM x.m ⟨5, cellAt l 0, 0, x.s.node⟩).2.1.1 ≠ 0) }, x.bad || !(accM x.m ⟨5, cellAt l 0, 0, x.s.node⟩).2.2⟩ := by unfold writeM; rw [h]; rfl
theorem w0 {x : Stp3} (h : x.s.at_ = 0) {wv : Nat} {y : Stp3} (e : progM l false who ⟨x.m, { x.s with op := ⟨1, 0, 0, 0⟩ }, x.bad⟩ = (y, none)) : writeM l who wv x = y := by
  unfold writeM; rw [h]; dsimp only; rw [e]; rfl
theorem w0' {x : Stp3} (h : x.s.at_ = 0) {wv : Nat} {y : Stp3} {val : Int} {is : Bool} {g : Gone} (e : progM l false who ⟨x.m, { x.s with op := ⟨1, 0, 0, 0⟩ }, x.bad⟩ = (y, some (val, is, g))) : writeM l who wv x = ⟨y.m, { y.s with node := val, at_ := 1, busy := is }, y.bad⟩ := by
  unfold writeM; rw [h]; dsimp only; rw [e]; rfl
theorem w3 {x : Stp3} (h : x.s.at_ = 3) {wv : Nat} {y : Stp3} (e : progM l true who ⟨x.m, { x.s with op := ⟨3, 0, x.s.node, 0⟩ }, x.bad⟩ = (y, none)) : writeM l who wv x = y := by
  unfold writeM; rw [h]; dsimp only; rw [e]; rfl
theorem w3' {x : Stp3} (h : x.s.at_ = 3) {wv : Nat} {y : Stp3} {val : Int} {is : Bool} {g : Gone} (e : progM l true who ⟨x.m, { x.s with op := ⟨3, 0, x.s.node, 0⟩ }, x.bad⟩ = (y, some (val, is, g))) : writeM l who wv x = ⟨y.m, { y.s with gone := g, busy := false }, y.bad⟩ := by
  unfold writeM; rw [h]; dsimp only; rw [e]; rfl
theorem k0 {x : Stp3} (h : x.s.at_ = 0) {y : Stp3} (e : progM l true who ⟨x.m, { x.s with op := ⟨1, 0, 0, cellAt l 0⟩ }, x.bad⟩ = (y, none)) : lookM l who x = y := by
  unfold lookM; rw [if_pos h, e]
theorem k0' {x : Stp3} (h : x.s.at_ = 0) {y : Stp3} {val : Int} {is : Bool} {g : Gone} (e : progM l true who ⟨x.m, { x.s with op := ⟨1, 0, 0, cellAt l 0⟩ }, x.bad⟩ = (y, some (val, is, g))) : lookM l who x = ⟨y.m, { y.s with node := val, at_ := if val = 0 then 3 else 1 }, y.bad⟩ := by
  unfold lookM; rw [if_pos h, e]
theorem k3 {x : Stp3} (h : x.s.at_ = 3) {y : Stp3} (e : progM l true who ⟨x.m, { x.s with op := ⟨2, 0, 0, 0⟩ }, x.bad⟩ = (y, none)) : lookM l who x = y := by
  unfold lookM; rw [if_neg (by omega), if_neg (by omega), e]
theorem k3' {x : Stp3} (h : x.s.at_ = 3) {y : Stp3} {val : Int} {is : Bool} {g : Gone} (e : progM l true who ⟨x.m, { x.s with op := ⟨2, 0, 0, 0⟩ }, x.bad⟩ = (y, some (val, is, g))) : lookM l who x = ⟨y.m, { y.s with busy := false }, y.bad⟩ := by
  unfold lookM; rw [if_neg (by omega), if_neg (by omega), e]
theorem step_ask (is : Is l w s md) {a : Acc} (ha : md.ask l who w = some a) (he : a.err m.length = 0)
    (hrd : ∀ x k v, md = .rd x k v → a.had m ≠ 0 ∧ (k = 2 → a.had m = v)) (hsw : ∀ x, md = .swp x → a.had m ≠ 0 → 1 ≤ a.had m ∧ a.had m ≤ l.c.nodes) :
    StepIs l w s (a.make m) bad (md.add l s.gone (a.had m, a.ok (a.had m))) s.gone (stepE l who w ⟨m, s, bad⟩) := by
  cases is with
  | idle b h => subst h; cases ha
  | tk b e at0 h =>
    subst h
    obtain ⟨pt, hn⟩ := nextR_take l s.log
    rcases ans_acc l 0 pt (tPh s.log) with ⟨k, c, o, v, e1, e2⟩ | ⟨val, is, err, pt', e1, e2⟩
    · have ha' : toAcc ((tPh s.log).ans l 0 0) = some a := ha
      rw [e2] at ha'
      injection ha' with ha'
      subst ha'
      have hp := progM_ask (l := l) (own := false) (who := who) (x := ⟨m, { s with op := ⟨1, 0, 0, 0⟩ }, bad⟩) (k := k) (c := c) (o := o) (v := v) (by simp only [Bool.false_eq_true, if_false]; rw [hn, e1]; rfl) he
      have hs := (stepW (l := l) (who := who) e ⟨m, s, bad⟩).trans (w0 (wv := w) at0 hp)
      rw [hs]
      exact ⟨rfl, rfl, .tk b e at0 (by rw [tPh_add]; rfl), rfl, rfl, by simp, (by rw [show _ = s.at_ from rfl, at0]; omega), .inl rfl⟩
    · have ha' : toAcc ((tPh s.log).ans l 0 0) = some a := ha
      rw [e2] at ha'
      cases ha'
  | put b e at1 lg h =>
    subst h
    injection ha with ha
    subst ha
    have hs : stepE l who w ⟨m, s, bad⟩ = ⟨(⟨2, nodeAt l s.node 1, 0, 1000 * (who : Int) + w + 1⟩ : Acc).make m, { s with at_ := 2 }, bad⟩ := by
      rw [stepW e, wr1 at1]
      dsimp only
      rw [acc_here he]
      simp
    rw [hs]
    exact ⟨rfl, rfl, .swp b e rfl lg rfl, rfl, rfl, by simp, (by simp), .inl rfl⟩
  | swp b e at2 lg h =>
    subst h
    injection ha with ha
    subst ha
    have hq := hsw _ rfl
    obtain ⟨had, hh⟩ : ∃ z, (⟨5, cellAt l 0, 0, s.node⟩ : Acc).had m = z := ⟨_, rfl⟩
    have hs : stepE l who w ⟨m, s, bad⟩ = ⟨(⟨5, cellAt l 0, 0, s.node⟩ : Acc).make m, { s with node := had, at_ := 3, busy := decide (had ≠ 0) }, bad⟩ := by
      rw [stepW e, wr2 at2]
      dsimp only
      rw [acc_here he]
      simp [hh]
    rw [hs]
    rw [hh] at hq ⊢
    refine ⟨rfl, rfl, ?_, rfl, rfl, by simp, (by simp), ?_⟩
    rotate_left
    · by_cases h0 : had = 0
      · exact .inr (.inl (by simp [h0]))
      · exact .inr (.inr (.inl (hq h0).2))
    simp only [Md.add]
    by_cases h0 : had = 0
    · rw [if_pos h0]; exact .idle (by simp [h0]) rfl
    · rw [if_neg h0]
      have hst := start_r l (hq h0) s.gone
      refine .ret (by simp [h0]) e rfl ?_ ?_
      · dsimp only; rw [lg, hst]; rfl
      · dsimp only; rw [lg, hst]; rfl
  | ret b e at3 c h =>
    subst h
    obtain ⟨q, hq⟩ : ∃ q, ePh l ⟨3, 0, s.node, 0⟩ s.gone s.log = q := ⟨_, rfl⟩
    rw [hq] at ha c ⊢
    rcases ask_md l s.node who w ⟨3, 0, s.node, 0⟩ s.gone q (by omega) (fun e => by omega) with ⟨k, c', o, v, e1, e2⟩ | ⟨val, is, err, pt', g, e1, e2⟩
    · rw [e2] at ha
      injection ha with ha
      subst ha
      have hp := progM_ask (l := l) (own := true) (who := who) (x := ⟨m, { s with op := ⟨3, 0, s.node, 0⟩ }, bad⟩) (k := k) (c := c') (o := o) (v := v) (by rw [if_pos rfl]; show (ePh l ⟨3, 0, s.node, 0⟩ s.gone s.log).ans l who ⟨3, 0, s.node, 0⟩ s.gone = _; rw [hq, e1]) he
      have hs := (stepW (l := l) (who := who) e ⟨m, s, bad⟩).trans (w3 (wv := w) at3 hp)
      rw [hs]
      have had := add_md l s.node s.node s.gone ((⟨k, c', o, v⟩ : Acc).had m, (⟨k, c', o, v⟩ : Acc).ok ((⟨k, c', o, v⟩ : Acc).had m)) q (by omega) (fun i e => by rw [e] at c; cases c) (fun _ => rfl)
      refine ⟨rfl, rfl, .ret b e at3 ?_ ?_, rfl, rfl, by simp, (by rw [show _ = s.at_ from rfl, at3]; omega), .inl rfl⟩
      · dsimp only; rw [ePh_snoc, hq, had.2, c]
      · dsimp only; rw [ePh_snoc, hq, had.1]
    · rw [e2] at ha; cases ha
  | gd b e at0 c h =>
    subst h
    obtain ⟨q, hq⟩ : ∃ q, ePh l ⟨1, 0, 0, cellAt l 0⟩ s.gone s.log = q := ⟨_, rfl⟩
    rw [hq] at ha c ⊢
    rcases ask_md l 0 who w ⟨1, 0, 0, cellAt l 0⟩ s.gone q (by omega) (fun e => ⟨rfl, rfl⟩) with ⟨k, c', o, v, e1, e2⟩ | ⟨val, is, err, pt', g, e1, e2⟩
    · rw [e2] at ha
      injection ha with ha
      subst ha
      have hp := progM_ask (l := l) (own := true) (who := who) (x := ⟨m, { s with op := ⟨1, 0, 0, cellAt l 0⟩ }, bad⟩) (k := k) (c := c') (o := o) (v := v) (by rw [if_pos rfl]; show (ePh l ⟨1, 0, 0, cellAt l 0⟩ s.gone s.log).ans l who ⟨1, 0, 0, cellAt l 0⟩ s.gone = _; rw [hq, e1]) he
      have hs := (stepK (l := l) (who := who) e ⟨m, s, bad⟩).trans (k0 at0 hp)
      rw [hs]
      have had := add_md l 0 0 s.gone ((⟨k, c', o, v⟩ : Acc).had m, (⟨k, c', o, v⟩ : Acc).ok ((⟨k, c', o, v⟩ : Acc).had m)) q (by omega) (fun i e => by rw [e] at c; cases c) (fun e => by omega)
      refine ⟨rfl, rfl, .gd b e at0 ?_ ?_, rfl, rfl, by simp, (by rw [show _ = s.at_ from rfl, at0]; omega), .inl rfl⟩
      · dsimp only; rw [ePh_snoc, hq, had.2, c]
      · dsimp only; rw [ePh_snoc, hq, had.1]
    · rw [e2] at ha; cases ha
  | rd k v b e hat hk lg hv h =>
    subst h
    injection ha with ha
    subst ha
    obtain ⟨r1, r2⟩ := hrd _ _ _ rfl
    obtain ⟨had, hh⟩ : ∃ z, (⟨1, nodeAt l s.node 1, 0, 0⟩ : Acc).had m = z := ⟨_, rfl⟩
    have hb0 : (decide (s.at_ = 2 ∧ had ≠ s.read) || decide (had = 0)) = false := by
      rw [hh] at r1 r2
      rw [Bool.or_eq_false_iff]
      refine ⟨decide_eq_false (fun q => q.2 ?_), decide_eq_false r1⟩
      have e2 : k = 2 := by omega
      rw [hv e2]
      exact r2 e2
    have hs : stepE l who w ⟨m, s, bad⟩ = ⟨(⟨1, nodeAt l s.node 1, 0, 0⟩ : Acc).make m, { s with read := had, at_ := s.at_ + 1 }, bad⟩ := by
      unfold stepE lookM
      rw [if_neg e]
      dsimp only
      rw [if_neg (by omega), if_pos (by omega), acc_here he]
      dsimp only
      rw [hh, hb0]
      simp
    rw [hs, hh]
    refine ⟨rfl, rfl, ?_, rfl, rfl, by simp, (by dsimp only; omega), .inl rfl⟩
    simp only [Md.add]
    by_cases h1 : k = 1
    · rw [if_pos h1]
      exact .rd 2 had b e (by dsimp only; omega) (.inr rfl) lg (fun _ => rfl) rfl
    · rw [if_neg h1]
      have hst := start_d l s.gone
      refine .dr b e (by dsimp only; omega) ?_ ?_
      · dsimp only; rw [lg, hst]; rfl
      · dsimp only; rw [lg, hst]; rfl
  | dr b e at3 c h =>
    subst h
    obtain ⟨q, hq⟩ : ∃ q, ePh l ⟨2, 0, 0, 0⟩ s.gone s.log = q := ⟨_, rfl⟩
    rw [hq] at ha c ⊢
    rcases ask_md l s.node who w ⟨2, 0, 0, 0⟩ s.gone q (by omega) (fun e => by omega) with ⟨k, c', o, v, e1, e2⟩ | ⟨val, is, err, pt', g, e1, e2⟩
    · have hi : ∀ i, q = .dr i → i < 3 := by
        intro i e
        rw [e] at ha
        simp only [reMd, Md.ask] at ha
        split at ha
        · assumption
        · cases ha
      rw [e2] at ha
      injection ha with ha
      subst ha
      have hp := progM_ask (l := l) (own := true) (who := who) (x := ⟨m, { s with op := ⟨2, 0, 0, 0⟩ }, bad⟩) (k := k) (c := c') (o := o) (v := v) (by rw [if_pos rfl]; show (ePh l ⟨2, 0, 0, 0⟩ s.gone s.log).ans l who ⟨2, 0, 0, 0⟩ s.gone = _; rw [hq, e1]) he
      have hs := (stepK (l := l) (who := who) e ⟨m, s, bad⟩).trans (k3 at3 hp)
      rw [hs]
      have had := add_md l s.node 0 s.gone ((⟨k, c', o, v⟩ : Acc).had m, (⟨k, c', o, v⟩ : Acc).ok ((⟨k, c', o, v⟩ : Acc).had m)) q (by omega) hi (fun e => by omega)
      refine ⟨rfl, rfl, .dr b e at3 ?_ ?_, rfl, rfl, by simp, (by rw [show _ = s.at_ from rfl, at3]; omega), .inl rfl⟩
      · dsimp only; rw [ePh_snoc, hq, had.2, c]
      · dsimp only; rw [ePh_snoc, hq, had.1]
    · rw [e2] at ha; cases ha
theorem step_tell (is : Is l w s md) (ha : md.ask l who w = none) (hne : md ≠ .idle) (hc : (∃ x, md = .tk (.t5 x)) ∨ md = .tk .tz ∨ (∃ g, md = .rz g) ∨ (∃ v, md = .gz v) ∨ ∃ i x, md = .dr i x ∧ ¬ i < 3) :
    StepIs l w s m bad (md.tell s.gone).1 (md.tell s.gone).2 (stepE l who w ⟨m, s, bad⟩) := by
  cases is with
  | idle b h => exact absurd h hne
  | tk b e at0 h =>
    obtain ⟨pt, hn⟩ := nextR_take l s.log
    have hph : (∃ x, tPh s.log = .t5 x) ∨ tPh s.log = .tz := by
      rw [h] at hc
      rcases hc with ⟨x, q⟩ | q | ⟨g, q⟩ | ⟨v, q⟩ | ⟨i, x, q, _⟩
      · injection q with q; exact .inl ⟨x, q⟩
      · injection q with q; exact .inr q
      · cases q
      · cases q
      · cases q
    rcases hph with ⟨x, hph⟩ | hph
    · rw [hph] at hn h
      have hp := progM_out (l := l) (own := false) (who := who) (x := ⟨m, { s with op := ⟨1, 0, 0, 0⟩ }, bad⟩) (val := idxOf x) (is := true) (err := 0) (pt := pt) (g := s.gone) (by simp only [Bool.false_eq_true, if_false]; rw [hn]; rfl)
      have hs := (stepW (l := l) (who := who) e ⟨m, s, bad⟩).trans (w0' (wv := w) at0 hp)
      rw [hs, h]
      exact ⟨rfl, rfl, .put rfl e rfl rfl rfl, rfl, rfl, by simp, (by simp), .inr (.inl (by show idxOf x ≤ 65535; unfold idxOf; omega))⟩
    · rw [hph] at hn h
      have hp := progM_out (l := l) (own := false) (who := who) (x := ⟨m, { s with op := ⟨1, 0, 0, 0⟩ }, bad⟩) (val := 0) (is := false) (err := 8) (pt := pt) (g := s.gone) (by simp only [Bool.false_eq_true, if_false]; rw [hn]; rfl)
      have hs := (stepW (l := l) (who := who) e ⟨m, s, bad⟩).trans (w0' (wv := w) at0 hp)
      rw [hs, h]
      exact ⟨rfl, rfl, .idle rfl rfl, rfl, rfl, by simp, (by simp), .inr (.inl (by simp))⟩
  | put b e at1 lg h => subst h; cases ha
  | swp b e at2 lg h => subst h; cases ha
  | ret b e at3 c h =>
    obtain ⟨q, hq⟩ : ∃ q, ePh l ⟨3, 0, s.node, 0⟩ s.gone s.log = q := ⟨_, rfl⟩
    rw [hq] at h c
    have hz : ∃ g, q = .rz g := by
      rw [h] at hc
      rcases hc with ⟨x, e1⟩ | e1 | ⟨g, e1⟩ | ⟨v, e1⟩ | ⟨i, x, e1, _⟩
      all_goals (cases q <;> simp [reMd, EPh.cls] at e1 c)
      exact ⟨_, rfl⟩
    obtain ⟨g, hz⟩ := hz
    subst hz
    have hp := progM_out (l := l) (own := true) (who := who) (x := ⟨m, { s with op := ⟨3, 0, s.node, 0⟩ }, bad⟩) (val := 0) (is := true) (err := 0) (pt := 1) (g := g) (by rw [if_pos rfl]; show (ePh l ⟨3, 0, s.node, 0⟩ s.gone s.log).ans l who ⟨3, 0, s.node, 0⟩ s.gone = _; rw [hq]; rfl)
    have hs := (stepW (l := l) (who := who) e ⟨m, s, bad⟩).trans (w3' (wv := w) at3 hp)
    rw [hs, h]
    exact ⟨rfl, rfl, .idle rfl rfl, rfl, rfl, by simp, (by rw [show _ = s.at_ from rfl, at3]; omega), .inl rfl⟩
  | gd b e at0 c h =>
    obtain ⟨q, hq⟩ : ∃ q, ePh l ⟨1, 0, 0, cellAt l 0⟩ s.gone s.log = q := ⟨_, rfl⟩
    rw [hq] at h c
    have hz : ∃ v p, q = .gz v p := by
      rw [h] at hc
      rcases hc with ⟨x, e1⟩ | e1 | ⟨g, e1⟩ | ⟨v, e1⟩ | ⟨i, x, e1, _⟩
      all_goals (cases q <;> simp [reMd, EPh.cls] at e1 c)
      exact ⟨_, _, rfl⟩
    obtain ⟨v, p, hz⟩ := hz
    subst hz
    have hp := progM_out (l := l) (own := true) (who := who) (x := ⟨m, { s with op := ⟨1, 0, 0, cellAt l 0⟩ }, bad⟩) (val := v) (is := true) (err := 0) (pt := p) (g := s.gone) (by rw [if_pos rfl]; show (ePh l ⟨1, 0, 0, cellAt l 0⟩ s.gone s.log).ans l who ⟨1, 0, 0, cellAt l 0⟩ s.gone = _; rw [hq]; rfl)
    have hs := (stepK (l := l) (who := who) e ⟨m, s, bad⟩).trans (k0' at0 hp)
    rw [hs, h]
    refine ⟨rfl, rfl, ?_, rfl, rfl, by simp, (by dsimp only; split <;> omega), ?_⟩
    rotate_left
    · simp only [reMd, Md.tell]
      by_cases h0 : v = 0
      · exact .inr (.inl (by simp [h0]))
      · rw [if_neg h0]; exact .inr (.inr (.inr ⟨1, 0, rfl⟩))
    simp only [reMd, Md.tell]
    by_cases h0 : v = 0
    · rw [if_pos h0, if_pos h0]
      have hst := start_d l s.gone
      refine .dr b e rfl ?_ ?_
      · dsimp only; rw [hst]; rfl
      · dsimp only; rw [hst, h0]; rfl
    · rw [if_neg h0, if_neg h0]
      exact .rd 1 0 b e rfl (.inl rfl) rfl (fun e => by omega) rfl
  | rd k v b e hat hk lg hv h => subst h; cases ha
  | dr b e at3 c h =>
    obtain ⟨q, hq⟩ : ∃ q, ePh l ⟨2, 0, 0, 0⟩ s.gone s.log = q := ⟨_, rfl⟩
    rw [hq] at h c
    have hz : ∃ i, q = .dr i ∧ ¬ i < 3 := by
      rw [h] at hc
      rcases hc with ⟨x, e1⟩ | e1 | ⟨g, e1⟩ | ⟨v, e1⟩ | ⟨i, x, e1, hi⟩
      all_goals (cases q <;> simp [reMd, EPh.cls] at e1 c)
      exact ⟨_, rfl, by omega⟩
    obtain ⟨i, hz, hi⟩ := hz
    subst hz
    have hp := progM_out (l := l) (own := true) (who := who) (x := ⟨m, { s with op := ⟨2, 0, 0, 0⟩ }, bad⟩) (val := 0) (is := true) (err := 0) (pt := 2) (g := s.gone) (by rw [if_pos rfl]; show (ePh l ⟨2, 0, 0, 0⟩ s.gone s.log).ans l who ⟨2, 0, 0, 0⟩ s.gone = _; rw [hq]; simp only [EPh.ans]; rw [if_neg hi])
    have hs := (stepK (l := l) (who := who) e ⟨m, s, bad⟩).trans (k3' at3 hp)
    rw [hs, h]
    exact ⟨rfl, rfl, .idle rfl rfl, rfl, rfl, by simp, (by rw [show _ = s.at_ from rfl, at3]; omega), .inl rfl⟩
end
end Go.Proofs.Ytgjdjgainjedhaa
namespace Go.Proofs.Ytgjdjgainjedhaa
open Go.RowKit
set_option linter.unusedVariables false

def wish (want : List (List Nat)) (k : Nat) (s : SeatE) : Nat := (want.getD k []).getD (s.next - 1) 0
structure TI (l : Ly) (n sz T : Nat) (want : List (List Nat)) (t : TabE) (ss : Nat → SA) : Prop where
  ei : ∃ L went, EI l n sz T t.m ss L went
  len : t.seats.length = n
  bad : t.bad = false
  seat : ∀ k s, t.seats[k]? = some s → Is l (wish want k s) s (ss k).1 ∧ s.gone = (ss k).2 ∧ gcnt s.gone (ss k).1 ≤ s.next ∧ s.next ≤ (want.getD k []).length ∧ s.at_ ≤ 3 ∧ s.node ≤ 65535 ∧ (s.busy = true → 1 ≤ s.next) ∧ s.gone.length ≤ s.next ∧ ∀ x ∈ s.gone, 1 ≤ x.1 ∧ x.1 ≤ l.c.nodes
def FinE (want : List (List Nat)) (k : Nat) (s : SeatE) : Prop := s.busy = false ∧ (want.getD k []).length ≤ s.next
instance (want : List (List Nat)) (k : Nat) (s : SeatE) : Decidable (FinE want k s) := inferInstanceAs (Decidable (_ ∧ _))
def pot (l : Ly) (want : List (List Nat)) (k : Nat) (m : List Int) (s : SeatE) (md : Md) : Nat := ((want.getD k []).length - s.next) * 60 + mu l m s.gone md
theorem EI.mono {l : Ly} {n sz T T' : Nat} {m : List Int} {ss : Nat → SA} {L : List Int} {went : Nat} (h : EI l n sz T m ss L went) (hT : T ≤ T') : EI l n sz T' m ss L went :=
  ⟨h.ml, h.fr, h.chain, h.tot, h.links, by have := h.era; omega, by have := h.wt; omega, h.cell, h.seat, h.prot⟩
section
variable {l : Ly} {n sz T : Nat} {want : List (List Nat)} {t : TabE} {ss : Nat → SA} {who : Nat} {s s0 : SeatE}
/-- What a turn is to be. -/
structure TurnIs (l : Ly) (n sz T : Nat) (want : List (List Nat)) (t : TabE) (ss : Nat → SA) (who : Nat) (s0 : SeatE) (t' : TabE) (ss' : Nat → SA) : Prop where
  ti : TI l n sz (T + 2) want t' ss'
  others : ∀ k, k ≠ who → t'.seats[k]? = t.seats[k]? ∧ ss' k = ss k
  mine : ∃ s', t'.seats[who]? = some s' ∧ s'.log.length ≤ s0.log.length + 1 ∧ (FinE want who s0 → t' = t ∧ s' = s0 ∧ ss' = ss) ∧ (¬ FinE want who s0 → pot l want who t'.m s' (ss' who).1 + 1 ≤ pot l want who t.m s0 (ss who).1)
theorem is_busy {w : Nat} {s : SeatE} {md : Md} (h : Is l w s md) (b : s.busy = true) : md ≠ .idle := by
  intro e
  subst e
  cases h with
  | idle b' h => rw [b] at b'; cases b'
  | tk b e a h => cases h
  | put b e a lg h => cases h
  | swp b e a lg h => cases h
  | ret b e a c h =>
    generalize ePh l ⟨3, 0, s.node, 0⟩ s.gone s.log = q at c h
    cases q <;> first | (cases h; done) | (cases c; done)
  | gd b e a c h =>
    generalize ePh l ⟨1, 0, 0, cellAt l 0⟩ s.gone s.log = q at c h
    cases q <;> first | (cases h; done) | (cases c; done)
  | rd k v b e a hk lg hv h => cases h
  | dr b e a c h =>
    generalize ePh l ⟨2, 0, 0, 0⟩ s.gone s.log = q at c h
    cases q <;> first | (cases h; done) | (cases c; done)
theorem is_idle {w : Nat} {s : SeatE} {md : Md} (h : Is l w s md) (b : s.busy = false) : md = .idle := by
  cases h with
  | idle b' h => exact h
  | tk b' => rw [b] at b'; cases b'
  | put b' => rw [b] at b'; cases b'
  | swp b' => rw [b] at b'; cases b'
  | ret b' => rw [b] at b'; cases b'
  | gd b' => rw [b] at b'; cases b'
  | rd _ _ b' => rw [b] at b'; cases b'
  | dr b' => rw [b] at b'; cases b'
theorem upd_self {α : Type} (f : Nat → α) (k : Nat) (x : α) : upd' f k x k = x := by simp [upd']
theorem upd_ne {α : Type} (f : Nat → α) {k j : Nat} (x : α) (h : j ≠ k) : upd' f k x j = f j := by simp [upd', h]
/-- A step of a seat that is at something. -/
theorem core {m : List Int} {L : List Int} {went : Nat} {md : Md} {gone : Gone} {w : Nat} (h : EI l n sz T m ss L went) (ly : ELay l n sz) (hT : T ≤ 100000) (hw : who < n) (hs : ss who = (md, gone)) (hg : s.gone = gone) (is : Is l w s md) (hb : s.busy = true) :
    ∃ md' gone' m', StepIs l w s m' false md' gone' (stepE l who w ⟨m, s, false⟩) ∧ (∃ L' went', EI l n sz (T + 1) m' (upd' ss who (md', gone')) L' went') ∧ mu l m' gone' md' + 1 ≤ mu l m gone md ∧ gcnt gone' md' ≤ gcnt gone md ∧ (gone' = gone ∨ md' = .idle) := by
  subst hg
  have hne := is_busy is hb
  cases ha : md.ask l who w with
  | some a =>
    have g := go_ask h ly hT hw hs ha
    exact ⟨_, _, _, step_ask is ha g.err g.rd g.sw, g.ei, g.mu, g.cnt, .inl rfl⟩
  | none =>
    obtain ⟨g1, g2, g3, g4⟩ := go_tell h hw hs ha hne
    exact ⟨_, _, m, step_tell is ha hne g4, ⟨L, went, g1⟩, g2, g3, by
      rcases g4 with ⟨x, rfl⟩ | rfl | ⟨g, rfl⟩ | ⟨v, rfl⟩ | ⟨i, x, rfl, _⟩
      · exact .inl rfl
      · exact .inl rfl
      · exact .inr rfl
      · exact .inl rfl
      · exact .inl rfl⟩
theorem turn_fin (hs : t.seats[who]? = some s0) (hf : FinE want who s0) : turnE l want who t = t := by
  unfold turnE
  rw [hs]
  dsimp only
  rw [if_pos (show s0.busy = false ∧ (want.getD who []).length ≤ s0.next from hf)]
theorem turn_go (hs : t.seats[who]? = some s0) (hf : ¬ FinE want who s0) : turnE l want who t = ⟨(stepE l who (wish want who (wakeE s0)) ⟨t.m, wakeE s0, t.bad⟩).m, t.seats.set who (stepE l who (wish want who (wakeE s0)) ⟨t.m, wakeE s0, t.bad⟩).s, (stepE l who (wish want who (wakeE s0)) ⟨t.m, wakeE s0, t.bad⟩).bad⟩ := by
  unfold turnE
  rw [hs]
  dsimp only
  rw [if_neg (show ¬ (s0.busy = false ∧ (want.getD who []).length ≤ s0.next) from hf)]
  rfl
theorem TI.turn (h : TI l n sz T want t ss) (ly : ELay l n sz) (hT : T ≤ 50000) (hwl : ∀ k, (want.getD k []).length ≤ 5) (hs : t.seats[who]? = some s0) : ∃ ss', TurnIs l n sz T want t ss who s0 (turnE l want who t) ss' := by
  have hw : who < n := by rw [← h.len]; exact (List.getElem?_eq_some_iff.1 hs).1
  obtain ⟨L, went, ei⟩ := h.ei
  obtain ⟨i1, i2, i3, i4, i5, i6, i7, i8, i9⟩ := h.seat who s0 hs
  by_cases hf : FinE want who s0
  · rw [turn_fin hs hf]
    exact ⟨ss, ⟨⟨L, went, ei.mono (by omega)⟩, h.len, h.bad, h.seat⟩, fun k _ => ⟨rfl, rfl⟩, s0, hs, by omega, fun _ => ⟨rfl, rfl, rfl⟩, fun q => absurd hf q⟩
  · rw [turn_go hs hf]
    obtain ⟨s, hsw⟩ : ∃ s, wakeE s0 = s := ⟨_, rfl⟩
    rw [hsw]
    have key : ∃ ss1 md, (∀ k, k ≠ who → ss1 k = ss k) ∧ ss1 who = (md, s.gone) ∧ EI l n sz (T + 1) t.m ss1 L went ∧ Is l (wish want who s) s md ∧ s.busy = true ∧ s.log.length ≤ s0.log.length ∧ s.next ≤ (want.getD who []).length ∧ (s.node ≤ 65535 ∧ 1 ≤ s.next ∧ s.gone.length ≤ s.next ∧ ∀ x ∈ s.gone, 1 ≤ x.1 ∧ x.1 ≤ l.c.nodes) ∧ gcnt s.gone md ≤ s.next ∧ ((want.getD who []).length - s.next) * 60 + mu l t.m s.gone md ≤ pot l want who t.m s0 (ss who).1 := by
      cases hb : s0.busy with
      | true =>
        have e : s = s0 := by rw [← hsw]; unfold wakeE; rw [if_pos hb]
        subst e
        refine ⟨ss, (ss who).1, fun _ _ => rfl, by rw [i2], ei.mono (by omega), i1, hb, Nat.le_refl _, i4, ⟨i6, i7 hb, i8, i9⟩, i3, ?_⟩
        rw [pot, i2]
        exact Nat.le_refl _
      | false =>
        have hnl : s0.next < (want.getD who []).length := by
          by_cases q : s0.next < (want.getD who []).length
          · exact q
          · exact absurd ⟨hb, by omega⟩ hf
        have hid := is_idle i1 hb
        have hse : ss who = (.idle, s0.gone) := by rw [← hid, i2]
        have e : s = { s0 with next := s0.next + 1, busy := true, at_ := 0, log := [], node := 0 } := by rw [← hsw]; unfold wakeE; rw [if_neg (by rw [hb]; decide)]
        have e1 : s.gone = s0.gone := by rw [e]
        have e2 : s.busy = true := by rw [e]
        have e3 : s.log = [] := by rw [e]
        have e4 : s.next = s0.next + 1 := by rw [e]
        have e5 : s.at_ = 0 := by rw [e]
        have e6 : s.node = 0 := by rw [e]
        have hgl : s0.gone.length ≤ s0.next := by rw [hid] at i3; exact i3
        have h5 := hwl who
        by_cases hwk : wish want who s % 2 = 0
        · refine ⟨upd' ss who (.tk .t0, s0.gone), .tk .t0, fun k hk => upd_ne ss _ hk, by rw [upd_self, e1], wake_w ei hw hse, .tk e2 hwk e5 (by rw [e3]; rfl), e2, by rw [e3]; simp, by omega, ⟨by rw [e6]; decide, by omega, by rw [e1, e4]; omega, by rw [e1]; exact i9⟩, ?_, ?_⟩
          · rw [e1, e4]; simp only [gcnt]; omega
          · rw [pot, hid, e1, e4]; simp only [mu, phMu]; omega
        · refine ⟨upd' ss who (.gu 0, s0.gone), .gu 0, fun k hk => upd_ne ss _ hk, by rw [upd_self, e1], wake_l ei hw hse, ?_, e2, by rw [e3]; simp, by omega, ⟨by rw [e6]; decide, by omega, by rw [e1, e4]; omega, by rw [e1]; exact i9⟩, ?_, ?_⟩
          · have hc := cell_in ly
            have hst := start_g l (by rw [ly.sz]; exact hc) s.gone
            exact .gd e2 hwk e5 (by rw [e3, hst]; rfl) (by rw [e3, hst]; rfl)
          · rw [e1, e4]; simp only [gcnt]; omega
          · rw [pot, hid, e1, e4]; simp only [mu]; split <;> omega
    obtain ⟨ss1, md, k1, k2, k3, k4, k5, k6, k7, ⟨k10, k11, k12, k13⟩, k8, k9⟩ := key
    obtain ⟨md', gone', m', st, ⟨L', went', e'⟩, c1, c2, c3⟩ := core k3 ly (by omega) hw k2 rfl k4 k5
    rw [h.bad]
    obtain ⟨y, hy⟩ : ∃ y, stepE l who (wish want who s) ⟨t.m, s, false⟩ = y := ⟨_, rfl⟩
    rw [hy] at st ⊢
    have hwl' : who < t.seats.length := by rw [h.len]; exact hw
    have hss : upd' ss1 who (md', gone') who = (md', gone') := upd_self _ _ _
    have hy1 : wish want who y.s = wish want who s := by unfold wish; rw [st.next]
    refine ⟨upd' ss1 who (md', gone'), ⟨⟨L', went', by rw [st.m]; exact e'⟩, by simp [h.len], st.bad, fun k u hu => ?_⟩, fun k hk => ⟨List.getElem?_set_ne (fun e => hk e.symm), by rw [upd_ne _ _ hk, k1 k hk]⟩, y.s, List.getElem?_set_self hwl', by have := st.log; omega, fun q => absurd q hf, fun _ => ?_⟩
    · dsimp only at hu
      by_cases e : k = who
      · subst e
        rw [List.getElem?_set_self hwl'] at hu
        injection hu with hu
        subst hu
        rw [hss, hy1, st.next, st.gone]
        have hg' : gone'.length ≤ s.next ∧ ∀ x ∈ gone', 1 ≤ x.1 ∧ x.1 ≤ l.c.nodes := by
          rcases c3 with c3 | c3
          · rw [c3]; exact ⟨k12, k13⟩
          · subst c3
            have c4 : gone'.length ≤ gcnt s.gone md := c2
            refine ⟨by omega, fun x hx => (e'.own_range hw (v := x.1) ?_).1⟩
            rw [hss]
            simp only [own, Md.us, Md.sp, Md.one, Md.pr, List.nil_append, List.mem_map]
            exact ⟨x, hx, rfl⟩
        refine ⟨st.is, rfl, by dsimp only; omega, k7, st.at_, ?_, fun _ => by omega, hg'.1, hg'.2⟩
        have hns := ly.nn
        rcases st.node with q | q | q | ⟨k, v, q⟩
        · rw [q]; exact k10
        · exact q
        · omega
        · have := e'.rd_range hw (by rw [hss]; exact q)
          omega
      · rw [List.getElem?_set_ne (fun e' => e e'.symm)] at hu
        rw [upd_ne _ _ e, k1 k e]
        exact h.seat k u hu
    · rw [hss, pot, st.next, st.m, st.gone]
      dsimp only
      omega
/-- What holds of a play: all is right, the logs are short. -/
structure OkE (l : Ly) (n sz : Nat) (want : List (List Nat)) (t : TabE) : Prop where
  ti : ∃ T ss, T ≤ 20000 ∧ TI l n sz T want t ss
  log : ∀ s ∈ t.seats, s.log.length ≤ 700
theorem TI.runs (ly : ELay l n sz) (hwl : ∀ k, (want.getD k []).length ≤ 5) : ∀ (ws : List Nat) {t : TabE} {ss : Nat → SA} {T B : Nat}, TI l n sz T want t ss → (∀ s ∈ t.seats, s.log.length ≤ B) → (∀ w ∈ ws, w < n) → T + 2 * ws.length ≤ 20000 →
    ∃ ss', TI l n sz (T + 2 * ws.length) want (runE l want t ws) ss' ∧ ∀ s ∈ (runE l want t ws).seats, s.log.length ≤ B + ws.length := by
  intro ws
  induction ws with
  | nil => intro t ss T B h hb _ _; exact ⟨ss, h, hb⟩
  | cons w ws ih =>
    intro t ss T B h hb hw hT
    simp only [List.length_cons] at hT
    obtain ⟨s0, hs⟩ : ∃ s0, t.seats[w]? = some s0 := ⟨_, List.getElem?_eq_getElem (by rw [h.len]; exact hw w (by simp))⟩
    obtain ⟨ss', tn⟩ := h.turn ly (by omega) hwl hs
    obtain ⟨s', m1, m2, -, -⟩ := tn.mine
    have hb' : ∀ s ∈ (turnE l want w t).seats, s.log.length ≤ B + 1 := by
      intro u hu
      obtain ⟨j, hj⟩ := List.getElem?_of_mem hu
      by_cases e : j = w
      · subst e
        rw [m1] at hj
        injection hj with hj
        subst hj
        have := hb s0 (List.mem_of_getElem? hs)
        omega
      · rw [(tn.others j e).1] at hj
        have := hb u (List.mem_of_getElem? hj)
        omega
    obtain ⟨ss2, r1, r2⟩ := ih tn.ti hb' (fun u hu => hw u (by simp [hu])) (by omega)
    refine ⟨ss2, ?_, ?_⟩
    · rw [show T + 2 * (w :: ws).length = T + 2 + 2 * ws.length from by simp only [List.length_cons]; omega]; exact r1
    · rw [show B + (w :: ws).length = B + 1 + ws.length from by simp only [List.length_cons]; omega]; exact r2
/-- A seat goes on alone. -/
theorem TI.alone (ly : ELay l n sz) (hwl : ∀ k, (want.getD k []).length ≤ 5) {T0 : Nat} {ss0 : Nat → SA} (h0 : TI l n sz T0 want t ss0) (hT0 : T0 + 1400 ≤ 20000) (hs0 : t.seats[who]? = some s0) : ∀ i, i ≤ 700 →
    ∃ ss, TI l n sz (T0 + 2 * i) want (runE l want t (List.replicate i who)) ss ∧ (∀ k, k ≠ who → (runE l want t (List.replicate i who)).seats[k]? = t.seats[k]?) ∧
      ∃ s, (runE l want t (List.replicate i who)).seats[who]? = some s ∧ (FinE want who s ∨ pot l want who (runE l want t (List.replicate i who)).m s (ss who).1 + i ≤ pot l want who t.m s0 (ss0 who).1) ∧ s.log.length + (if FinE want who s then 0 else pot l want who (runE l want t (List.replicate i who)).m s (ss who).1) ≤ s0.log.length + pot l want who t.m s0 (ss0 who).1 := by
  intro i
  induction i with
  | zero => intro _; exact ⟨ss0, h0, fun _ _ => rfl, s0, hs0, .inr (by exact Nat.le_refl _), by show s0.log.length + (if _ then 0 else pot l want who t.m s0 (ss0 who).1) ≤ _; split <;> omega⟩
  | succ i ih =>
    intro hi
    obtain ⟨ss, t1, t2, s, t3, t4, t5⟩ := ih (by omega)
    have er : runE l want t (List.replicate (i + 1) who) = turnE l want who (runE l want t (List.replicate i who)) := by rw [List.replicate_succ', runE_snoc]
    rw [er]
    generalize runE l want t (List.replicate i who) = x at *
    obtain ⟨ss', tn⟩ := t1.turn ly (by omega) hwl t3
    obtain ⟨s', m1, m2, m3, m4⟩ := tn.mine
    refine ⟨ss', by rw [show T0 + 2 * (i + 1) = T0 + 2 * i + 2 by omega]; exact tn.ti, fun k hk => by rw [(tn.others k hk).1]; exact t2 k hk, s', m1, ?_, ?_⟩
    · by_cases hf : FinE want who s
      · obtain ⟨q1, q2, q3⟩ := m3 hf
        rw [q2]
        exact .inl hf
      · have := m4 hf
        rcases t4 with t4 | t4
        · exact absurd t4 hf
        · exact .inr (by omega)
    · by_cases hf : FinE want who s
      · obtain ⟨q1, q2, q3⟩ := m3 hf
        rw [q2, if_pos hf]
        rw [if_pos hf] at t5
        exact t5
      · have := m4 hf
        rw [if_neg hf] at t5
        split <;> omega
theorem gcnt_mu {m : List Int} {k : Nat} {s : SeatE} (h : gcnt s.gone (ss k).1 ≤ 5) {L : List Int} {went : Nat} (ei : EI l n sz T m ss L went) (hk : k < n) (ly : ELay l n sz) : mu l m s.gone (ss k).1 ≤ 60 := by
  have hm := (ei.seat k hk).2
  have h3 := ly.ns
  cases e : (ss k).1 with
  | tk p => rw [e] at h; simp only [gcnt] at h; cases p <;> simp only [mu, phMu] <;> first | omega | (split <;> omega)
  | rb hd s' g r => rw [e] at h; simp only [gcnt] at h; simp only [mu]; omega
  | rg hd s' g r p => rw [e] at h; simp only [gcnt] at h; cases p <;> simp only [mu, phMu] <;> first | omega | (split <;> omega)
  | gu has => simp only [mu]; split <;> omega
  | gv has v => simp only [mu]; split <;> omega
  | gs e => simp only [mu]; split <;> omega
  | rd n k v => simp only [mu]; split <;> omega
  | _ => rw [e] at h; simp only [gcnt] at h; simp only [mu]; omega
theorem TI.pot_le (h : TI l n sz T want t ss) (ly : ELay l n sz) (hwl : ∀ k, (want.getD k []).length ≤ 5) (hs : t.seats[who]? = some s) : pot l want who t.m s (ss who).1 ≤ 360 := by
  have hw : who < n := by rw [← h.len]; exact (List.getElem?_eq_some_iff.1 hs).1
  obtain ⟨L, went, ei⟩ := h.ei
  obtain ⟨i1, i2, i3, i4, i5⟩ := h.seat who s hs
  have := hwl who
  have := gcnt_mu (s := s) (by omega) ei hw ly
  unfold pot
  omega
end
/-- Whose turns a play has, up to a place. -/
def whosP (n : Nat) (turns : List Nat) (k i : Nat) : List Nat := turns.map (· % n) ++ ((List.range k).flatMap fun j => List.replicate 700 j) ++ List.replicate i k
theorem whos_next (N k : Nat) (xs : List Nat) : xs ++ ((List.range k).flatMap fun j => List.replicate N j) ++ List.replicate N k = xs ++ ((List.range (k + 1)).flatMap fun j => List.replicate N j) ++ List.replicate 0 (k + 1) := by
  simp [List.range_succ]
theorem whosP_next (n : Nat) (turns : List Nat) (k : Nat) : whosP n turns k 700 = whosP n turns (k + 1) 0 := whos_next 700 k _
theorem whosP_end (n : Nat) (turns : List Nat) : whosP n turns n 0 = whosE n turns := by
  unfold whosP whosE
  simp only [List.replicate_zero, List.append_nil]
structure EndE (l : Ly) (n sz : Nat) (want : List (List Nat)) (t : TabE) (k : Nat) : Prop where
  ti : ∃ ss, TI l n sz (400 + 1400 * k) want t ss
  fin : ∀ j, j < k → ∃ s, t.seats[j]? = some s ∧ FinE want j s
  log : ∀ s ∈ t.seats, s.log.length ≤ 700
  rest : ∀ j s, k ≤ j → t.seats[j]? = some s → s.log.length ≤ 200
/-- All turns of a play. -/
theorem all_ok {l : Ly} {n sz : Nat} {want : List (List Nat)} {t0 : TabE} {ss0 : Nat → SA} (ly : ELay l n sz) (hwl : ∀ k, (want.getD k []).length ≤ 5) (h0 : TI l n sz 0 want t0 ss0) (hl0 : ∀ s ∈ t0.seats, s.log.length ≤ 0) (turns : List Nat) (ht : turns.length ≤ 200) :
    (∀ i, i ≤ turns.length → OkE l n sz want (runE l want t0 ((turns.take i).map (· % n)))) ∧ (∀ k, k < n → ∀ i, i ≤ 700 → OkE l n sz want (runE l want t0 (whosP n turns k i))) ∧ (∀ k, k ≤ n → EndE l n sz want (runE l want t0 (whosP n turns k 0)) k) := by
  have hn := ly.ns
  have hlt : ∀ (xs : List Nat), ∀ w ∈ xs.map (· % n), w < n := by
    intro xs w hw
    simp at hw
    obtain ⟨x, _, rfl⟩ := hw
    exact Nat.mod_lt _ (by omega)
  have p1 : ∀ i, i ≤ turns.length → OkE l n sz want (runE l want t0 ((turns.take i).map (· % n))) := by
    intro i hi
    have hli : ((turns.take i).map (· % n)).length = i := by simp; omega
    obtain ⟨ss, r1, r2⟩ := TI.runs ly hwl ((turns.take i).map (· % n)) h0 hl0 (hlt _) (by rw [hli]; omega)
    exact ⟨⟨_, ss, by rw [hli]; omega, r1⟩, fun s hs => by have := r2 s hs; rw [hli] at this; omega⟩
  have step : ∀ k, k < n → EndE l n sz want (runE l want t0 (whosP n turns k 0)) k → (∀ i, i ≤ 700 → OkE l n sz want (runE l want t0 (whosP n turns k i))) ∧ EndE l n sz want (runE l want t0 (whosP n turns (k + 1) 0)) (k + 1) := by
    intro k hk he
    have er : ∀ i, runE l want t0 (whosP n turns k i) = runE l want (runE l want t0 (whosP n turns k 0)) (List.replicate i k) := by
      intro i
      rw [← runE_append]
      congr 1
      simp only [whosP, List.replicate_zero, List.append_nil]
    have e7 : runE l want t0 (whosP n turns (k + 1) 0) = runE l want (runE l want t0 (whosP n turns k 0)) (List.replicate 700 k) := by rw [← whosP_next, er]
    rw [e7]
    clear e7
    generalize hx : runE l want t0 (whosP n turns k 0) = x at er he ⊢
    obtain ⟨ss, t1⟩ := he.ti
    obtain ⟨s0, hs⟩ : ∃ s0, x.seats[k]? = some s0 := ⟨_, List.getElem?_eq_getElem (by rw [t1.len]; exact hk)⟩
    have hp := t1.pot_le ly hwl hs
    have hl := he.rest k s0 (Nat.le_refl _) hs
    have al := TI.alone ly hwl t1 (by omega) hs
    have hlog : ∀ i, i ≤ 700 → ∀ u ∈ (runE l want x (List.replicate i k)).seats, u.log.length ≤ 700 := by
      intro i hi u hu
      obtain ⟨ss', a1, a2, s, a3, a4, a5⟩ := al i hi
      obtain ⟨j, hj⟩ := List.getElem?_of_mem hu
      by_cases e : j = k
      · subst e
        rw [a3] at hj
        injection hj with hj
        subst hj
        omega
      · rw [a2 j e] at hj
        exact he.log u (List.mem_of_getElem? hj)
    refine ⟨fun i hi => ?_, ?_⟩
    · obtain ⟨ss', a1, -⟩ := al i hi
      rw [er i]
      exact ⟨⟨_, ss', by omega, a1⟩, hlog i hi⟩
    · obtain ⟨ss', a1, a2, s, a3, a4, a5⟩ := al 700 (Nat.le_refl _)
      refine ⟨⟨ss', by rw [show 400 + 1400 * (k + 1) = 400 + 1400 * k + 2 * 700 by omega]; exact a1⟩, fun j hj => ?_, hlog 700 (Nat.le_refl _), fun j u hj hu => ?_⟩
      · by_cases e : j = k
        · subst e
          refine ⟨s, a3, ?_⟩
          rcases a4 with a4 | a4
          · exact a4
          · omega
        · obtain ⟨u, h1, h2⟩ := he.fin j (by omega)
          exact ⟨u, by rw [a2 j e]; exact h1, h2⟩
      · rw [a2 j (by omega)] at hu
        exact he.rest j u (by omega) hu
  have all : ∀ k, k ≤ n → EndE l n sz want (runE l want t0 (whosP n turns k 0)) k := by
    intro k
    induction k with
    | zero =>
      intro _
      have e : whosP n turns 0 0 = turns.map (· % n) := by simp only [whosP, List.range_zero, List.flatMap_nil, List.replicate_zero, List.append_nil]
      rw [e]
      have hli : (turns.map (· % n)).length = turns.length := by simp
      obtain ⟨ss, r1, r2⟩ := TI.runs ly hwl (turns.map (· % n)) h0 hl0 (hlt _) (by rw [hli]; omega)
      rw [hli] at r1 r2
      obtain ⟨L, went, ei⟩ := r1.ei
      exact ⟨⟨ss, ⟨L, went, ei.mono (by omega)⟩, r1.len, r1.bad, r1.seat⟩, fun j hj => by omega, fun s hs => by have := r2 s hs; omega, fun j s _ hs => by have := r2 s (List.mem_of_getElem? hs); omega⟩
    | succ k ih => intro hk; exact (step k (by omega) (ih (by omega))).2
  exact ⟨p1, fun k hk i hi => (step k hk (all k (by omega))).1 i hi, all⟩
end Go.Proofs.Ytgjdjgainjedhaa
