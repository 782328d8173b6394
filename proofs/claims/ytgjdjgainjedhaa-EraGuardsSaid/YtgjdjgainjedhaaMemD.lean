/- The contract of mem.Do. -/
import Derived.Test.YtgjdjgainjedhaaMemW
import Derived.BigRegion
import Derived.RegionTactic
namespace Go.Proofs.Ytgjdjgainjedhaa
open Go.RowKit
attribute [local go_sem ↓] Go.wp_at_zero Go.wp_at_succ

theorem Bk.grown {w w' : World} {g : Nat} {t : TypeId} {cs : Array Value} {row : Option Nat} (h : Bk w g t cs) (hb : w.grownBy w' row) (hg : some g ≠ row) : Bk w' g t cs := (hb.block g h.lt hg).trans h

set_option maxHeartbeats 2000000 in
theorem do_bad (A : Option Addr) (c : Nat) (n : Nat) (a : Acc) (w : World) (he : a.err n ≠ 0) :
    Calls Try.prog 18 #[memV A n c, accV a] w fun e w' => e = .returned (.tuple #[memV A n c, resV 0 false, .int .i64 (a.err n)]) ∧ Below w.heap.size w w' := by
  have hn : (a.err n != 0) = true := by simpa using he
  go_enter Try.func18, Try.ntmps18
  go_wp2_with fail
  refine (fault_any n a _).mono ?_
  rintro e w1 ⟨rfl, hb1⟩
  have hbl := below_tr (below_al (below_al (below_al (below_al (Below.refl w.heap.size w) _) _) _) _) hb1
  have k0 := ((((Bk.made w 33 #[.slice A n c]).alloc _).alloc _).alloc _).keep hb1
  have k2 := ((Bk.new ((w.alloc (.cells #[.slice A n c] 33)).alloc (.cells #[.int .i64 a.kind, .int .i64 a.cell, .int .i64 a.old, .int .i64 a.new] 61)) (g := w.heap.size + 1 + 1) (by simp) 33 #[.slice none 0 0]).alloc _).keep hb1
  have k3 := ((Bk.new (((w.alloc (.cells #[.slice A n c] 33)).alloc (.cells #[.int .i64 a.kind, .int .i64 a.cell, .int .i64 a.old, .int .i64 a.new] 61)).alloc (.cells #[.slice none 0 0] 33)) (g := w.heap.size + 1 + 1 + 1) (by simp) 67 #[.int .i64 0, .bool false])).keep hb1
  clear hb1
  have c0 := k0.cell 0
  have c2 := k2.cell 0
  have f2 := k2.free 0
  have c3 := k3.cell 0
  have c4 := k3.cell 1
  have f3 := k3.free 0
  have f4 := k3.free 1
  simp at c0 c2 c3 c4
  go_wp2
  refine bodyPost_ret (v := .tuple #[memV A n c, resV 0 false, .int .i64 (a.err n)]) (by simp [results, Try.results18, go_sem, c2, c3, c4]) rfl ⟨rfl, ?_⟩
  exact below_set (below_set (below_set hbl (by simp; omega) _) (by simp; omega) _) (by simp; omega) _

/-- What mem.Do hands back: a memory of its own, and what the access told. -/
def DidOk (a : Acc) (zs : List Int) (w : World) (e : Ending) (w' : World) : Prop :=
  ∃ g cap, e = .returned (.tuple #[memV (some ⟨g, 0, none⟩) zs.length cap, resV (a.had zs) (a.ok (a.had zs)), .int .i64 0]) ∧ OwnInts w' w.heap.size (.slice (some ⟨g, 0, none⟩) zs.length cap) (a.make zs) ∧ Below w.heap.size w w'

theorem own_mono {w : World} {B B' : Nat} {v : Value} {zs : List Int} (h : OwnInts w B v zs) (hB : B' ≤ B) : OwnInts w B' v zs := by
  rcases h.2 with h0 | ⟨g, cap, cur, h1, h2, h3⟩
  · exact ⟨h.1, .inl h0⟩
  · exact ⟨h.1, .inr ⟨g, cap, cur, h1, Nat.le_trans hB h2, h3⟩⟩

theorem OwnInts.far {w : World} {base g n cap : Nat} {zs : List Int} (h : OwnInts w base (.slice (some ⟨g, 0, none⟩) n cap) zs) {p : Addr} (hp : p.block ≠ g) (u : Value) : OwnInts (w.setCell p u) base (.slice (some ⟨g, 0, none⟩) n cap) zs :=
  World.ownsRow.kept (row := some p.block) h ⟨rfl, rfl, rfl, by simp, fun k _ hk => Below.heap_setCell w p u k (fun e => hk (by rw [e]))⟩ (.inr (by simp [Value.ownBlock]; omega))
theorem own_drew {w : World} {base : Nat} {v : Value} {zs : List Int} (h : OwnInts w base v zs) : OwnInts w.drew base v zs := h

set_option maxHeartbeats 4000000 in
theorem do_ok (A : Option Addr) (c : Nat) (zs : List Int) (a : Acc) (w : World) (h : Sl w w.heap.size A zs.length (ints zs)) (hm : zs.length ≤ 1000000) (he : a.err zs.length = 0) :
    Calls Try.prog 18 #[memV A zs.length c, accV a] w (DidOk a zs w) := by
  obtain ⟨hr, hc0, hc1⟩ := Acc.err_ok he
  have hpos : 0 < zs.length := by omega
  go_enter Try.func18, Try.ntmps18
  go_wp2_with fail
  refine (fault_any zs.length a _).mono ?_
  rintro e w1 ⟨rfl, hb1⟩
  have hbl := below_tr (below_al (below_al (below_al (below_al (Below.refl w.heap.size w) _) _) _) _) hb1
  have k0 := ((((Bk.made w 33 #[.slice A zs.length c]).alloc _).alloc _).alloc _).keep hb1
  have k1 := (((Bk.new (w.alloc (.cells #[.slice A zs.length c] 33)) (g := w.heap.size + 1) (by simp) 61 #[.int .i64 a.kind, .int .i64 a.cell, .int .i64 a.old, .int .i64 a.new]).alloc _).alloc _).keep hb1
  have k2 := ((Bk.new ((w.alloc (.cells #[.slice A zs.length c] 33)).alloc (.cells #[.int .i64 a.kind, .int .i64 a.cell, .int .i64 a.old, .int .i64 a.new] 61)) (g := w.heap.size + 1 + 1) (by simp) 33 #[.slice none 0 0]).alloc _).keep hb1
  have k3 := ((Bk.new (((w.alloc (.cells #[.slice A zs.length c] 33)).alloc (.cells #[.int .i64 a.kind, .int .i64 a.cell, .int .i64 a.old, .int .i64 a.new] 61)).alloc (.cells #[.slice none 0 0] 33)) (g := w.heap.size + 1 + 1 + 1) (by simp) 67 #[.int .i64 0, .bool false])).keep hb1
  clear hb1
  have hs1 := k3.lt
  have c0 := k0.cell 0
  simp at c0
  have HE := Lib.hid he
  rw [he]
  clear he
  go_wp2_with fail
  refine (clone_any A c zs _ ((h.below hbl).more hbl.size) hm).mono ?_
  rintro e w2 ⟨v, rfl, hown, hb2⟩
  obtain ⟨g, cap, rfl, hg1, hg2⟩ := World.ownsRow.form hown hpos
  have hbl2 := below_tr hbl hb2
  replace k1 := k1.keep hb2
  replace k2 := k2.keep hb2
  replace k3 := k3.keep hb2
  have d0 := k1.cell 0
  have d1 := k1.cell 1
  have d2 := k1.cell 2
  have d3 := k1.cell 3
  simp at d0 d1 d2 d3
  clear k0 c0
  have hgs : w.heap.size + 1 + 1 + 1 < g := by omega
  go_wp2_with fail
  refine (turn_any a _ g cap zs _ hown hr hc1 hg2).mono ?_
  rintro e w3 ⟨rfl, hown3, hgrow⟩
  have hbl3 : Below w.heap.size w w3 := hbl2.grown hgrow hbl2.size (fun k hk => by injection hk; omega)
  replace k2 := k2.grown hgrow (fun e => by injection e; omega)
  replace k3 := k3.grown hgrow (fun e => by injection e; omega)
  have hs3 := k3.lt
  have hs2 := k2.lt
  have hg3 : g < w3.heap.size := Nat.lt_of_lt_of_le hg2 hgrow.size
  have c2 := k2.cell 0
  have f2 := k2.free 0
  have c3 := k3.cell 0
  have c4 := k3.cell 1
  have f3 := k3.free 0
  have f4 := k3.free 1
  simp at c2 c3 c4
  have hbl1 := hbl.size
  clear d0 d1 d2 d3 k1 k2 k3 hgrow hown hb2 hbl2 h hbl
  generalize hhad : a.had zs = had at *
  have HH := Lib.hid hhad
  clear hhad
  go_wp2_with fail
  go_region
  go_wp2
  have hh := HH.out
  subst hh
  refine bodyPost_ret (v := .tuple #[memV (some ⟨g, 0, none⟩) zs.length cap, resV (a.had zs) (a.ok (a.had zs)), .int .i64 0]) (by simp [results, Try.results18, go_sem, c2, c3, c4, hs2, hs3]) rfl ⟨g, cap, rfl, ?_, ?_⟩
  · refine own_mono ?_ (Nat.le_trans hbl1 (Nat.le_refl _))
    exact own_drew ((((hown3.far (p := ⟨_, _, none⟩) (by simp; omega) _).far (p := ⟨_, _, none⟩) (by simp; omega) _).far (p := ⟨_, _, none⟩) (by simp; omega) _).alloc _)
  · exact (below_al (below_set (below_set (below_set hbl3 (by simp; omega) _) (by simp; omega) _) (by simp; omega) _) _).drew
end Go.Proofs.Ytgjdjgainjedhaa
