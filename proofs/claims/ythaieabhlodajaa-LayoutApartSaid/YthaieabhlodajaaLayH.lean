/- The places of a layout: printed by places_gen.py. -/
import Derived.Test.YthaieabhlodajaaLayC
namespace Go.Proofs.Ythaieabhlodajaa
open Go.RowKit
attribute [local go_sem ↓] Go.wp_at_zero Go.wp_at_succ

structure LyFull (l : Ly) : Prop where
  x1 : 0 ≤ l.alive ∧ l.alive ≤ 1000000
  x2 : 0 ≤ l.owner ∧ l.owner ≤ 1000000
  x3 : 0 ≤ l.resv ∧ l.resv ≤ 1000000
  x4 : 0 ≤ l.deque ∧ l.deque ≤ 1000000
  x5 : 0 ≤ l.task ∧ l.task ≤ 1000000
  x6 : 0 ≤ l.cell ∧ l.cell ≤ 1000000
  x7 : 0 ≤ l.map ∧ l.map ≤ 1000000
  x8 : 0 ≤ l.stack ∧ l.stack ≤ 1000000
  x9 : 0 ≤ l.chan ∧ l.chan ≤ 1000000
  x10 : 0 ≤ l.node ∧ l.node ≤ 1000000
  y1 : 0 ≤ l.c.seats ∧ l.c.seats ≤ 8
  y2 : 0 ≤ l.c.tasks ∧ l.c.tasks ≤ 64
  y3 : 0 ≤ l.c.cells ∧ l.c.cells ≤ 16
  y4 : 0 ≤ l.c.maps ∧ l.c.maps ≤ 8
  y5 : 0 ≤ l.c.buckets ∧ l.c.buckets ≤ 64
  y6 : 0 ≤ l.c.stacks ∧ l.c.stacks ≤ 8
  y7 : 0 ≤ l.c.slots ∧ l.c.slots ≤ 8
  y8 : 0 ≤ l.c.chans ∧ l.c.chans ≤ 8
  y9 : 0 ≤ l.c.nodes ∧ l.c.nodes ≤ 1000
theorem lyFull_of (c : Cf) (h : c.can) : LyFull (lyOf c) := by
  have hl := lyOk_of c h
  obtain ⟨b0, b1, b2, b3, b4, b5, b6, b7, b8, b9, b10, b11⟩ := hl.b0
  have r0 : 1 ≤ c.seats ∧ c.seats ≤ 8 := h.1.1 0 (by omega)
  have r1 : 1 ≤ c.buckets ∧ c.buckets ≤ 64 := h.1.1 1 (by omega)
  have r2 : 1 ≤ c.slots ∧ c.slots ≤ 8 := h.1.1 2 (by omega)
  have r3 : 1 ≤ c.tasks ∧ c.tasks ≤ 64 := h.1.1 3 (by omega)
  have r4 : 0 ≤ c.cells ∧ c.cells ≤ 16 := h.1.1 4 (by omega)
  have r5 : 0 ≤ c.maps ∧ c.maps ≤ 8 := h.1.1 5 (by omega)
  have r6 : 0 ≤ c.stacks ∧ c.stacks ≤ 8 := h.1.1 6 (by omega)
  have r7 : 0 ≤ c.chans ∧ c.chans ≤ 8 := h.1.1 7 (by omega)
  have n1 := h.2
  have e : (lyOf c).c = c := rfl
  have ea : (lyOf c).alive = 4 := rfl
  constructor
  all_goals (try rw [e])
  all_goals (try rw [ea])
  all_goals omega
def withinN (f m e r i : Int) : Int := if 0 ≤ r ∧ r < m ∧ 0 ≤ i ∧ i < e then f + r * e + i else -1
theorem within_any (f m e r i : Int) (w : World) (hf0 : 0 ≤ f) (hf1 : f ≤ 1000000) (hm : m ≤ 1000) (he : e ≤ 1000) : Calls Try.prog 28 #[.int .i64 f, .int .i64 m, .int .i64 e, .int .i64 r, .int .i64 i] w (IntSame (withinN f m e r i) w) := by
  unfold withinN
  split
  · rename_i h
    have hp := mul_bd r e 1000 1000 (by omega) (by omega) (by omega) (by omega)
    exact within_in f m e r i (r * e) w rfl h.1 h.2.1 h.2.2.1 h.2.2.2 hp.1 (by omega) hf0 (by omega) (by omega)
  · rename_i h
    exact within_out f m e r i w h

def aliveAt (l : Ly) (a : Int) : Int := withinN (l.alive) (l.c.seats) 1 (a) 0
set_option maxRecDepth 100000 in
set_option maxHeartbeats 2000000 in
theorem alive_any (l : Ly) (a : Int) (w : World) (f : LyFull l) : Calls Try.prog 29 #[lyV l, .int .i64 a] w (IntBelow (aliveAt l a) w) := by
  obtain ⟨x1, x2, x3, x4, x5, x6, x7, x8, x9, x10, y1, y2, y3, y4, y5, y6, y7, y8, y9⟩ := f
  unfold aliveAt
  go_enter Try.func29, Try.ntmps29
  go_wp2_with fail
  (with_reducible refine (within_any (l.alive) (l.c.seats) (1) (a) (0) _ (by omega) (by omega) (by omega) (by omega)).mono ?_)
  rintro e w1 ⟨rfl, rfl⟩
  generalize withinN (l.alive) (l.c.seats) (1) (a) (0) = v at *
  go_wp2
  go_ret
  exact ⟨rfl, below_al (Below.refl _ _) _⟩

def ownerAt (l : Ly) (a : Int) : Int := withinN (l.owner) (l.c.seats) 1 (a) 0
set_option maxRecDepth 100000 in
set_option maxHeartbeats 2000000 in
theorem owner_any (l : Ly) (a : Int) (w : World) (f : LyFull l) : Calls Try.prog 30 #[lyV l, .int .i64 a] w (IntBelow (ownerAt l a) w) := by
  obtain ⟨x1, x2, x3, x4, x5, x6, x7, x8, x9, x10, y1, y2, y3, y4, y5, y6, y7, y8, y9⟩ := f
  unfold ownerAt
  go_enter Try.func30, Try.ntmps30
  go_wp2_with fail
  (with_reducible refine (within_any (l.owner) (l.c.seats) (1) (a) (0) _ (by omega) (by omega) (by omega) (by omega)).mono ?_)
  rintro e w1 ⟨rfl, rfl⟩
  generalize withinN (l.owner) (l.c.seats) (1) (a) (0) = v at *
  go_wp2
  go_ret
  exact ⟨rfl, below_al (Below.refl _ _) _⟩

def resvAt (l : Ly) (a b : Int) : Int := withinN (l.resv) (l.c.seats) (3) (a) (b)
set_option maxRecDepth 100000 in
set_option maxHeartbeats 2000000 in
theorem resv_any (l : Ly) (a b : Int) (w : World) (f : LyFull l) : Calls Try.prog 31 #[lyV l, .int .i64 a, .int .i64 b] w (IntBelow (resvAt l a b) w) := by
  obtain ⟨x1, x2, x3, x4, x5, x6, x7, x8, x9, x10, y1, y2, y3, y4, y5, y6, y7, y8, y9⟩ := f
  unfold resvAt
  go_enter Try.func31, Try.ntmps31
  go_wp2_with fail
  (with_reducible refine (within_any (l.resv) (l.c.seats) (3) (a) (b) _ (by omega) (by omega) (by omega) (by omega)).mono ?_)
  rintro e w1 ⟨rfl, rfl⟩
  generalize withinN (l.resv) (l.c.seats) (3) (a) (b) = v at *
  go_wp2
  go_ret
  exact ⟨rfl, below_al (Below.refl _ _) _⟩

def dequeAt (l : Ly) (a b : Int) : Int := withinN (l.deque) (l.c.seats) (3) (a) (b)
set_option maxRecDepth 100000 in
set_option maxHeartbeats 2000000 in
theorem deque_any (l : Ly) (a b : Int) (w : World) (f : LyFull l) : Calls Try.prog 32 #[lyV l, .int .i64 a, .int .i64 b] w (IntBelow (dequeAt l a b) w) := by
  obtain ⟨x1, x2, x3, x4, x5, x6, x7, x8, x9, x10, y1, y2, y3, y4, y5, y6, y7, y8, y9⟩ := f
  unfold dequeAt
  go_enter Try.func32, Try.ntmps32
  go_wp2_with fail
  (with_reducible refine (within_any (l.deque) (l.c.seats) (3) (a) (b) _ (by omega) (by omega) (by omega) (by omega)).mono ?_)
  rintro e w1 ⟨rfl, rfl⟩
  generalize withinN (l.deque) (l.c.seats) (3) (a) (b) = v at *
  go_wp2
  go_ret
  exact ⟨rfl, below_al (Below.refl _ _) _⟩

def taskAt (l : Ly) (a b : Int) : Int := if a < 1 then -1 else withinN (l.task) (l.c.tasks) (4) (a - 1) (b)
set_option maxRecDepth 100000 in
set_option maxHeartbeats 2000000 in
theorem task_any (l : Ly) (a b : Int) (w : World) (f : LyFull l) (ha : a ≤ 9223372036854775807) : Calls Try.prog 20 #[lyV l, .int .i64 a, .int .i64 b] w (IntBelow (taskAt l a b) w) := by
  obtain ⟨x1, x2, x3, x4, x5, x6, x7, x8, x9, x10, y1, y2, y3, y4, y5, y6, y7, y8, y9⟩ := f
  by_cases h : a < 1
  · have e : taskAt l a b = -1 := by unfold taskAt; rw [if_pos h]
    rw [e]
    clear e
    have g1 : decide (a < 1) = true := by simp; omega
    go_enter Try.func20, Try.ntmps20
    go_wp2
    go_ret
    exact ⟨rfl, below_al (Below.refl _ _) _⟩
  · have e : taskAt l a b = withinN (l.task) (l.c.tasks) (4) (a - 1) (b) := by unfold taskAt; rw [if_neg h]
    rw [e]
    clear e
    have g1 : decide (a < 1) = false := by simp; omega
    go_enter Try.func20, Try.ntmps20
    go_wp2_with fail
    (with_reducible refine (within_any (l.task) (l.c.tasks) (4) (a - 1) (b) _ (by omega) (by omega) (by omega) (by omega)).mono ?_)
    rintro e w1 ⟨rfl, rfl⟩
    generalize withinN (l.task) (l.c.tasks) (4) (a - 1) (b) = v at *
    go_wp2
    go_ret
    exact ⟨rfl, below_al (Below.refl _ _) _⟩

def cellAt (l : Ly) (a : Int) : Int := withinN (l.cell) (l.c.cells) 1 (a) 0
set_option maxRecDepth 100000 in
set_option maxHeartbeats 2000000 in
theorem cell_any (l : Ly) (a : Int) (w : World) (f : LyFull l) : Calls Try.prog 33 #[lyV l, .int .i64 a] w (IntBelow (cellAt l a) w) := by
  obtain ⟨x1, x2, x3, x4, x5, x6, x7, x8, x9, x10, y1, y2, y3, y4, y5, y6, y7, y8, y9⟩ := f
  unfold cellAt
  go_enter Try.func33, Try.ntmps33
  go_wp2_with fail
  (with_reducible refine (within_any (l.cell) (l.c.cells) (1) (a) (0) _ (by omega) (by omega) (by omega) (by omega)).mono ?_)
  rintro e w1 ⟨rfl, rfl⟩
  generalize withinN (l.cell) (l.c.cells) (1) (a) (0) = v at *
  go_wp2
  go_ret
  exact ⟨rfl, below_al (Below.refl _ _) _⟩

def mapAt (l : Ly) (a b : Int) : Int := if 1 < b then -1 else withinN (l.map) (l.c.maps) (2 + l.c.buckets) (a) (b)
set_option maxRecDepth 100000 in
set_option maxHeartbeats 2000000 in
theorem map_any (l : Ly) (a b : Int) (w : World) (f : LyFull l) : Calls Try.prog 34 #[lyV l, .int .i64 a, .int .i64 b] w (IntBelow (mapAt l a b) w) := by
  obtain ⟨x1, x2, x3, x4, x5, x6, x7, x8, x9, x10, y1, y2, y3, y4, y5, y6, y7, y8, y9⟩ := f
  by_cases h : 1 < b
  · have e : mapAt l a b = -1 := by unfold mapAt; rw [if_pos h]
    rw [e]
    clear e
    have g1 : decide (1 < b) = true := by simp; omega
    go_enter Try.func34, Try.ntmps34
    go_wp2
    go_ret
    exact ⟨rfl, below_al (Below.refl _ _) _⟩
  · have e : mapAt l a b = withinN (l.map) (l.c.maps) (2 + l.c.buckets) (a) (b) := by unfold mapAt; rw [if_neg h]
    rw [e]
    clear e
    have g1 : decide (1 < b) = false := by simp; omega
    go_enter Try.func34, Try.ntmps34
    go_wp2_with fail
    (with_reducible refine (within_any (l.map) (l.c.maps) (2 + l.c.buckets) (a) (b) _ (by omega) (by omega) (by omega) (by omega)).mono ?_)
    rintro e w1 ⟨rfl, rfl⟩
    generalize withinN (l.map) (l.c.maps) (2 + l.c.buckets) (a) (b) = v at *
    go_wp2
    go_ret
    exact ⟨rfl, below_al (Below.refl _ _) _⟩

def bucketAt (l : Ly) (a b : Int) : Int := if b < 0 ∨ l.c.buckets ≤ b then -1 else withinN (l.map) (l.c.maps) (2 + l.c.buckets) (a) (2 + b)
set_option maxRecDepth 100000 in
set_option maxHeartbeats 2000000 in
theorem bucket_any (l : Ly) (a b : Int) (w : World) (f : LyFull l) : Calls Try.prog 35 #[lyV l, .int .i64 a, .int .i64 b] w (IntBelow (bucketAt l a b) w) := by
  obtain ⟨x1, x2, x3, x4, x5, x6, x7, x8, x9, x10, y1, y2, y3, y4, y5, y6, y7, y8, y9⟩ := f
  by_cases h1 : b < 0
  · have e : bucketAt l a b = -1 := by unfold bucketAt; rw [if_pos (.inl h1)]
    rw [e]
    clear e
    have k1 : decide (b < 0) = true := by simp; omega
    go_enter Try.func35, Try.ntmps35
    go_wp2
    go_ret
    exact ⟨rfl, below_al (Below.refl _ _) _⟩
  · have k1 : decide (b < 0) = false := by simp; omega
    by_cases h2 : l.c.buckets ≤ b
    · have e : bucketAt l a b = -1 := by unfold bucketAt; rw [if_pos (.inr h2)]
      rw [e]
      clear e
      have k2 : decide (l.c.buckets ≤ b) = true := by simp; omega
      go_enter Try.func35, Try.ntmps35
      go_wp2
      go_ret
      exact ⟨rfl, below_al (Below.refl _ _) _⟩
    · have e : bucketAt l a b = withinN (l.map) (l.c.maps) (2 + l.c.buckets) (a) (2 + b) := by unfold bucketAt; rw [if_neg (by omega)]
      rw [e]
      clear e
      have k2 : decide (l.c.buckets ≤ b) = false := by simp; omega
      go_enter Try.func35, Try.ntmps35
      go_wp2_with fail
      (with_reducible refine (within_any (l.map) (l.c.maps) (2 + l.c.buckets) (a) (2 + b) _ (by omega) (by omega) (by omega) (by omega)).mono ?_)
      rintro e w1 ⟨rfl, rfl⟩
      generalize withinN (l.map) (l.c.maps) (2 + l.c.buckets) (a) (2 + b) = v at *
      go_wp2
      go_ret
      exact ⟨rfl, below_al (Below.refl _ _) _⟩

def topAt (l : Ly) (a : Int) : Int := withinN (l.stack) (l.c.stacks) (1 + l.c.slots) (a) 0
set_option maxRecDepth 100000 in
set_option maxHeartbeats 2000000 in
theorem top_any (l : Ly) (a : Int) (w : World) (f : LyFull l) : Calls Try.prog 36 #[lyV l, .int .i64 a] w (IntBelow (topAt l a) w) := by
  obtain ⟨x1, x2, x3, x4, x5, x6, x7, x8, x9, x10, y1, y2, y3, y4, y5, y6, y7, y8, y9⟩ := f
  unfold topAt
  go_enter Try.func36, Try.ntmps36
  go_wp2_with fail
  (with_reducible refine (within_any (l.stack) (l.c.stacks) (1 + l.c.slots) (a) (0) _ (by omega) (by omega) (by omega) (by omega)).mono ?_)
  rintro e w1 ⟨rfl, rfl⟩
  generalize withinN (l.stack) (l.c.stacks) (1 + l.c.slots) (a) (0) = v at *
  go_wp2
  go_ret
  exact ⟨rfl, below_al (Below.refl _ _) _⟩

def slotAt (l : Ly) (a b : Int) : Int := if b < 0 ∨ l.c.slots ≤ b then -1 else withinN (l.stack) (l.c.stacks) (1 + l.c.slots) (a) (1 + b)
set_option maxRecDepth 100000 in
set_option maxHeartbeats 2000000 in
theorem slot_any (l : Ly) (a b : Int) (w : World) (f : LyFull l) : Calls Try.prog 37 #[lyV l, .int .i64 a, .int .i64 b] w (IntBelow (slotAt l a b) w) := by
  obtain ⟨x1, x2, x3, x4, x5, x6, x7, x8, x9, x10, y1, y2, y3, y4, y5, y6, y7, y8, y9⟩ := f
  by_cases h1 : b < 0
  · have e : slotAt l a b = -1 := by unfold slotAt; rw [if_pos (.inl h1)]
    rw [e]
    clear e
    have k1 : decide (b < 0) = true := by simp; omega
    go_enter Try.func37, Try.ntmps37
    go_wp2
    go_ret
    exact ⟨rfl, below_al (Below.refl _ _) _⟩
  · have k1 : decide (b < 0) = false := by simp; omega
    by_cases h2 : l.c.slots ≤ b
    · have e : slotAt l a b = -1 := by unfold slotAt; rw [if_pos (.inr h2)]
      rw [e]
      clear e
      have k2 : decide (l.c.slots ≤ b) = true := by simp; omega
      go_enter Try.func37, Try.ntmps37
      go_wp2
      go_ret
      exact ⟨rfl, below_al (Below.refl _ _) _⟩
    · have e : slotAt l a b = withinN (l.stack) (l.c.stacks) (1 + l.c.slots) (a) (1 + b) := by unfold slotAt; rw [if_neg (by omega)]
      rw [e]
      clear e
      have k2 : decide (l.c.slots ≤ b) = false := by simp; omega
      go_enter Try.func37, Try.ntmps37
      go_wp2_with fail
      (with_reducible refine (within_any (l.stack) (l.c.stacks) (1 + l.c.slots) (a) (1 + b) _ (by omega) (by omega) (by omega) (by omega)).mono ?_)
      rintro e w1 ⟨rfl, rfl⟩
      generalize withinN (l.stack) (l.c.stacks) (1 + l.c.slots) (a) (1 + b) = v at *
      go_wp2
      go_ret
      exact ⟨rfl, below_al (Below.refl _ _) _⟩

def headAt (l : Ly) (a : Int) : Int := withinN (l.chan) (l.c.chans) (2) (a) 0
set_option maxRecDepth 100000 in
set_option maxHeartbeats 2000000 in
theorem head_any (l : Ly) (a : Int) (w : World) (f : LyFull l) : Calls Try.prog 38 #[lyV l, .int .i64 a] w (IntBelow (headAt l a) w) := by
  obtain ⟨x1, x2, x3, x4, x5, x6, x7, x8, x9, x10, y1, y2, y3, y4, y5, y6, y7, y8, y9⟩ := f
  unfold headAt
  go_enter Try.func38, Try.ntmps38
  go_wp2_with fail
  (with_reducible refine (within_any (l.chan) (l.c.chans) (2) (a) (0) _ (by omega) (by omega) (by omega) (by omega)).mono ?_)
  rintro e w1 ⟨rfl, rfl⟩
  generalize withinN (l.chan) (l.c.chans) (2) (a) (0) = v at *
  go_wp2
  go_ret
  exact ⟨rfl, below_al (Below.refl _ _) _⟩

def tailAt (l : Ly) (a : Int) : Int := withinN (l.chan) (l.c.chans) (2) (a) 1
set_option maxRecDepth 100000 in
set_option maxHeartbeats 2000000 in
theorem tail_any (l : Ly) (a : Int) (w : World) (f : LyFull l) : Calls Try.prog 39 #[lyV l, .int .i64 a] w (IntBelow (tailAt l a) w) := by
  obtain ⟨x1, x2, x3, x4, x5, x6, x7, x8, x9, x10, y1, y2, y3, y4, y5, y6, y7, y8, y9⟩ := f
  unfold tailAt
  go_enter Try.func39, Try.ntmps39
  go_wp2_with fail
  (with_reducible refine (within_any (l.chan) (l.c.chans) (2) (a) (1) _ (by omega) (by omega) (by omega) (by omega)).mono ?_)
  rintro e w1 ⟨rfl, rfl⟩
  generalize withinN (l.chan) (l.c.chans) (2) (a) (1) = v at *
  go_wp2
  go_ret
  exact ⟨rfl, below_al (Below.refl _ _) _⟩

def nodeAt (l : Ly) (a b : Int) : Int := if a < 1 then -1 else withinN (l.node) (l.c.nodes) (8) (a - 1) (b)
set_option maxRecDepth 100000 in
set_option maxHeartbeats 2000000 in
theorem node_any (l : Ly) (a b : Int) (w : World) (f : LyFull l) (ha : a ≤ 9223372036854775807) : Calls Try.prog 21 #[lyV l, .int .i64 a, .int .i64 b] w (IntBelow (nodeAt l a b) w) := by
  obtain ⟨x1, x2, x3, x4, x5, x6, x7, x8, x9, x10, y1, y2, y3, y4, y5, y6, y7, y8, y9⟩ := f
  by_cases h : a < 1
  · have e : nodeAt l a b = -1 := by unfold nodeAt; rw [if_pos h]
    rw [e]
    clear e
    have g1 : decide (a < 1) = true := by simp; omega
    go_enter Try.func21, Try.ntmps21
    go_wp2
    go_ret
    exact ⟨rfl, below_al (Below.refl _ _) _⟩
  · have e : nodeAt l a b = withinN (l.node) (l.c.nodes) (8) (a - 1) (b) := by unfold nodeAt; rw [if_neg h]
    rw [e]
    clear e
    have g1 : decide (a < 1) = false := by simp; omega
    go_enter Try.func21, Try.ntmps21
    go_wp2_with fail
    (with_reducible refine (within_any (l.node) (l.c.nodes) (8) (a - 1) (b) _ (by omega) (by omega) (by omega) (by omega)).mono ?_)
    rintro e w1 ⟨rfl, rfl⟩
    generalize withinN (l.node) (l.c.nodes) (8) (a - 1) (b) = v at *
    go_wp2
    go_ret
    exact ⟨rfl, below_al (Below.refl _ _) _⟩
end Go.Proofs.Ythaieabhlodajaa
