/- underwoodref15.Init, law16.begin: the table in the beginning. Printed by bg_gen.py. law16.begin. Printed by bg_gen.py. -/
import Derived.Test.YtgjdjgainjedhaaERd
import Derived.Test.YtgjdjgainjedhaaRefP
import Derived.Test.YtgjdjgainjedhaaETab
namespace Go.Proofs.Ytgjdjgainjedhaa
open Go.RowKit
set_option linter.unusedVariables false
attribute [local go_sem ↓] Go.wp_at_zero Go.wp_at_succ

theorem accCells_append (l m : List Acc) : accCells (l ++ m) = accCells l ++ accCells m := by simp [accCells]
theorem accCells_get : ∀ (l : List Acc) (k : Nat) (a : Acc), l[k]? = some a → (accCells l)[k * 4]? = some (.int .i64 a.kind) ∧ (accCells l)[k * 4 + 1]? = some (.int .i64 a.cell) ∧ (accCells l)[k * 4 + 2]? = some (.int .i64 a.old) ∧ (accCells l)[k * 4 + 3]? = some (.int .i64 a.new)
  | [], k, a, h => by simp at h
  | b :: l, 0, a, h => by simp at h; subst h; simp [accCells]
  | b :: l, k + 1, a, h => by
    simp at h
    have := accCells_get l k a h
    rw [show (k + 1) * 4 = k * 4 + 1 + 1 + 1 + 1 from by omega]
    simpa [accCells] using this
theorem own_slAcc {w : World} {base cap n : Nat} {G : Option Addr} {l : List Acc} (h : w.ownsRow base 61 4 (.slice G n cap) n (accCells l)) (hn : l.length = n) : SlAcc w w.heap.size G l := by
  intro hl
  rcases h.2 with ⟨h1, h2⟩ | ⟨g, cap', cur, h1, _⟩
  · omega
  · injection h1 with h1 _ h3
    subst h1 h3
    have hlt : g < w.heap.size := by
      rcases h.2 with ⟨h2, _⟩ | ⟨g', cap2, cur', h2, _, h4, _⟩
      · cases h2
      · injection h2 with h2 _ _
        injection h2 with h2
        injection h2 with h2
        subst h2
        exact (Array.getElem?_eq_some_iff.1 h4).1
    refine ⟨g, 0, rfl, hlt, fun k a hk => ?_⟩
    have hkl : k < l.length := (List.getElem?_eq_some_iff.1 hk).1
    obtain ⟨h1, h2, h3, h4⟩ := accCells_get l k a hk
    have hc : ∀ (d : Nat) (v : Value), d < 4 → (accCells l)[k * 4 + d]? = some v → w.cell? ⟨g, 0 + k * 4 + d, none⟩ = some v := fun d v hd hv => by
      rw [Nat.zero_add, World.ownsRow.cellAt h (k * 4 + d) (by omega)]
      exact hv
    exact ⟨hc 0 _ (by omega) h1, hc 1 _ (by omega) h2, hc 2 _ (by omega) h3, hc 3 _ (by omega) h4⟩
def linkA (l : Ly) (k : Nat) : Acc := ⟨2, nodeAt l (k + 1) 7, 0, if (k : Int) + 1 = l.c.nodes then 0 else (k : Int) + 2⟩
def linksA (l : Ly) (k : Nat) : List Acc := (List.range k).map (linkA l)
theorem linksA_succ (l : Ly) (k : Nat) : linksA l (k + 1) = linksA l k ++ [linkA l k] := by simp [linksA, List.range_succ]
theorem initA_eq (l : Ly) : initA l = linksA l l.c.nodes.toNat ++ [⟨2, l.free, 0, packI (if 1 ≤ l.c.nodes then 1 else 0) false 0⟩] := rfl
theorem acc_info : (Try.prog.info? 61).map (fun i => (i.zero, i.size, i.bytes)) = some (some (.agg #[.int .i64 0, .int .i64 0, .int .i64 0, .int .i64 0]), 4, 32) := by kernel_rfl
theorem acc_rowT : ∃ i, RowT Try.prog 104 61 i (.agg #[.int .i64 0, .int .i64 0, .int .i64 0, .int .i64 0]) 4 32 := RowT.of Try.underlying104 acc_info rfl (by decide)
theorem acc_news (w : World) (cs : Array Value) : ∀ (j : Nat) (u : Value), cs.toList[j]? = some u → (w.alloc (.cells cs 61)).cell? ((⟨w.heap.size, 0, none⟩ : Addr).add j) = some u := by
  intro j u hu
  rw [Go.WideShapes.add_plain, Nat.zero_add, (Bk.made w 61 cs).cell j]
  simpa using hu
def InitRel (w : World) (l : Ly) (v6 v7 : Value) (wr : World) : Prop :=
  ∃ k : Nat, (k : Int) + 1 ≤ l.c.nodes ∧ v7 = .int .i64 (k + 1 : Nat) ∧ Below w.heap.size w wr ∧ Bk wr w.heap.size 40 (lyC l) ∧ wr.ownsRow w.heap.size 61 4 v6 k (accCells (linksA l k))
/-- What Init hands back: a row of its own. -/
def AccsPost (as_ : List Acc) (w : World) (e : Ending) (w' : World) : Prop := ∃ v, e = .returned v ∧ w'.ownsRow w.heap.size 61 4 v as_.length (accCells as_) ∧ Below w.heap.size w w'
set_option maxRecDepth 100000 in
set_option maxHeartbeats 4000000 in
theorem rinit_any (l : Ly) (w : World) (f : LyFull l) (h1 : 1 ≤ l.c.nodes) (h2 : l.c.nodes ≤ 1000) : Calls Try.prog 41 #[lyV l, .int .i64 1] w (AccsPost (initA l) w) := by
  have k0 := Bk.made w 40 (lyC l)
  have hbl := below_al (Below.refl w.heap.size w) (.cells (lyC l) 40)
  obtain ⟨i0, hi0, hz0, hz1, hz2⟩ := info_parts acc_info
  obtain ⟨inf, hri⟩ := acc_rowT
  go_enter Try.func41, Try.ntmps41
  go_wp2_with fail
  generalize w.alloc (.cells (lyC l) 40) = w1 at *
  go_loopw [6, 7] (fun v6 v7 wr => InitRel w l v6 v7 wr) (fun _ v7 _ => (l.c.nodes.toNat + 1) - (intOf v7).toNat)
  case atStart => exact ⟨0, by omega, rfl, hbl, k0, World.ownsRow_nil _ _ _ _⟩
  case round =>
    obtain ⟨k, hk, rfl, hb1, k1, hown⟩ := hrel
    obtain ⟨kk, hkk⟩ : ∃ kk : Int, ((k + 1 : Nat) : Int) = kk := ⟨_, rfl⟩
    rw [hkk]
    have b1 : 1 ≤ kk ∧ kk ≤ 1000 := by omega
    by_cases hlt : kk < l.c.nodes
    · have g1 : decide (kk < l.c.nodes) = true := by simp; omega
      have HO := Lib.hid hown
      have F := Lib.hid f
      have HKK := Lib.hid hkk
      have hk2 : k < 1000 := by omega
      have HLT := Lib.hid hlt
      clear hown f hkk
      go_wp2_with (refine wpList_load_row rfl 40 (.tmp 2) rfl w.heap.size rfl 40 (lyC l) (0, 0) _ k1 Try.underlying40 rfl (by kernel_rfl) ?_)
      (with_reducible refine (rnode_any l kk 7 _ F.out).mono ?_)
      rintro e w2 ⟨rfl, hb2⟩
      obtain ⟨c7, hc7⟩ : ∃ c, nodeAt l kk 7 = c := ⟨_, rfl⟩
      rw [hc7]
      have HC7 := Lib.hid hc7
      clear hc7
      have hb3 := below_tr hb1 hb2
      have k2 := (k1.keep hb2).alloc (.cells #[.int .i64 2, .int .i64 c7, .int .i64 0, .int .i64 (kk + 1)] 61)
      have hown1 := World.ownsRow.alloc (own_keepb HO.out hb2) (.cells #[.int .i64 2, .int .i64 c7, .int .i64 0, .int .i64 (kk + 1)] 61)
      have hb4 := below_al hb3 (.cells #[.int .i64 2, .int .i64 c7, .int .i64 0, .int .i64 (kk + 1)] 61)
      clear hb1 hb2
      go_wp2_with (at_builtin; go_must (refine wpList_append_own_at _ rfl (.tmp 19) (.tmp 26) _ rfl w.heap.size 61 i0 _ 4 32 Try.underlying104 hi0 hz0 hz1 hz2 rfl (by omega) u6 k (accCells (linksA l k)) rfl hown1 ⟨w2.heap.size, 0, none⟩ 1 1 [.int .i64 2, .int .i64 c7, .int .i64 0, .int .i64 (kk + 1)] rfl rfl (acc_news w2 _) (by simp [Value.oneCell']) (by simp only [maxLen]; omega) (by omega) (by simp; have := hb3.size; omega) ?_; intro v9 w5 hrow4 hgrow4 _ _))
      have hkt := keptT_grown hown1 hgrow4
      refine ⟨⟨k + 1, by have := HKK.out; have := HLT.out; omega, by have := HKK.out; go_num, below_grow hb4 hown1 hgrow4 hb4.size (Nat.le_refl _), k2.keptT hkt (by decide), ?_⟩, by simp [intOf]; omega⟩
      rw [linksA_succ, accCells_append]
      have e : linkA l k = ⟨2, c7, 0, (kk + 1)⟩ := by
        have h1 := HKK.out
        have h2 := HLT.out
        have h3 := HC7.out
        have h4 : (k : Int) + 1 = kk := by omega
        unfold linkA
        rw [h4, h3, if_neg (by omega)]
        congr 1
        omega
      rw [e]
      exact hrow4
    · have g1 : decide (kk < l.c.nodes) = false := by simp; omega
      have g2 : decide (l.c.nodes < 1) = false := by simp; omega
      have HO := Lib.hid hown
      have F := Lib.hid f
      have hk2 : k < 1000 := by omega
      have hkn : (k : Int) + 1 = l.c.nodes := by omega
      have HKN := Lib.hid hkn
      clear hown f hkk hlt hkn
      go_upto_region 11 with fail
      obtain ⟨nn, hnn⟩ : ∃ z, l.c.nodes = z := ⟨_, rfl⟩
      have HNN := Lib.hid hnn
      go_wp2_with (refine wpList_load_row rfl 40 (.tmp 2) rfl w.heap.size rfl 40 (lyC l) (0, 0) _ k1 Try.underlying40 rfl (by kernel_rfl) ?_)
      (with_reducible refine (rnode_any l _ 7 _ F.out).mono ?_)
      rintro e w2 ⟨rfl, hb2⟩
      obtain ⟨c7, hc7⟩ : ∃ c, nodeAt l nn 7 = c := ⟨_, rfl⟩
      rw [hc7]
      have HC7 := Lib.hid hc7
      clear hc7
      have hb3 := below_tr hb1 hb2
      have k2 := (k1.keep hb2).alloc (.cells #[.int .i64 2, .int .i64 c7, .int .i64 0, .int .i64 0] 61)
      have hown1 := World.ownsRow.alloc (own_keepb HO.out hb2) (.cells #[.int .i64 2, .int .i64 c7, .int .i64 0, .int .i64 0] 61)
      have hb4 := below_al hb3 (.cells #[.int .i64 2, .int .i64 c7, .int .i64 0, .int .i64 0] 61)
      clear hb1 hb2
      go_upto_region 12 with (at_builtin; go_must (refine wpList_append_own_at _ rfl (.tmp 35) (.tmp 40) _ rfl w.heap.size 61 i0 _ 4 32 Try.underlying104 hi0 hz0 hz1 hz2 rfl (by omega) u6 k (accCells (linksA l k)) rfl hown1 ⟨w2.heap.size, 0, none⟩ 1 1 [.int .i64 2, .int .i64 c7, .int .i64 0, .int .i64 0] rfl rfl (acc_news w2 _) (by simp [Value.oneCell']) (by simp only [maxLen]; omega) (by omega) (by simp; have := hb3.size; omega) ?_; intro v9 w5 hrow4 hgrow4 _ _))
      have k5 := k2.keptT (keptT_grown hown1 hgrow4) (by decide)
      have hb5 := below_grow hb4 hown1 hgrow4 hb4.size (Nat.le_refl _)
      have e : linkA l k = ⟨2, c7, 0, 0⟩ := by
        have h3 := HC7.out
        have h4 := HKN.out
        have h5 := HNN.out
        unfold linkA
        rw [h4, h5, h3, if_pos rfl]
      have hrow5 : w5.ownsRow w.heap.size 61 4 v9 (k + 1) (accCells (linksA l (k + 1))) := by
        rw [linksA_succ, accCells_append, e]
        exact hrow4
      clear hrow4 e hown1 hgrow4 k2 k1 hb4 hb3 g1 g2 hnn
      have q4 := k5.cell 12
      have l5 := k5.lt
      simp at q4
      have k6 := k5.alloc (.cells #[.int .i64 2, .int .i64 l.free, .int .i64 0, .int .i64 1] 61)
      have hown6 := World.ownsRow.alloc hrow5 (.cells #[.int .i64 2, .int .i64 l.free, .int .i64 0, .int .i64 1] 61)
      have hb6 := below_al hb5 (.cells #[.int .i64 2, .int .i64 l.free, .int .i64 0, .int .i64 1] 61)
      go_wp2_with (at_builtin; go_must (refine wpList_append_own_at _ rfl (.tmp 42) (.tmp 47) _ rfl w.heap.size 61 i0 _ 4 32 Try.underlying104 hi0 hz0 hz1 hz2 rfl (by omega) v9 (k + 1) (accCells (linksA l (k + 1))) rfl hown6 ⟨w5.heap.size, 0, none⟩ 1 1 [.int .i64 2, .int .i64 l.free, .int .i64 0, .int .i64 1] rfl rfl (acc_news w5 _) (by simp [Value.oneCell']) (by simp only [maxLen]; omega) (by omega) (by simp; have := hb5.size; omega) ?_; intro v10 w7 hrow7 hgrow7 _ _))
      go_ret
      have hN : l.c.nodes.toNat = k + 1 := by have := HKN.out; omega
      have hlen : (initA l).length = k + 1 + 1 := by rw [initA_eq, hN]; simp [linksA]
      refine ⟨v10, rfl, ?_, below_grow hb6 hown6 hgrow7 hb6.size (Nat.le_refl _)⟩
      rw [hlen, initA_eq, hN, accCells_append]
      have e : packI (if 1 ≤ l.c.nodes then 1 else 0) false 0 = 1 := by
        rw [if_pos h1]
        rfl
      rw [e]
      exact hrow7
end Go.Proofs.Ytgjdjgainjedhaa
namespace Go.Proofs.Ytgjdjgainjedhaa
open Go.RowKit
set_option linter.unusedVariables false
attribute [local go_sem ↓] Go.wp_at_zero Go.wp_at_succ

theorem oper_make {Q : Exit → Act → World → Prop} {o : Oper} {a : Act} {w : World} {K : Act → World → Prop} {t e : TypeId} (x y : Operand) (ho : o.op = .makeSlice t x y) (N : Nat) (cs : Array Value) (hx : a.eval x = .int .i64 N) (hy : a.eval y = .int .i64 N)
    (hr : (Instr.makeSlice t (.int .i64 N) (.int .i64 N)).run Try.prog w = .ok (.slice (some ⟨w.heap.size, 0, none⟩) N N) (w.alloc (.cells cs e)))
    (h : K (a.put o.dst (.slice (some ⟨w.heap.size, 0, none⟩) N N)) (w.alloc (.cells cs e))) : o.wp Try.prog a w K Q := by
  unfold Oper.wp execOp
  simp only [ho, hx, hy, Sem.run_bind, hr, Result.andThen_ok]
  exact h
theorem rall_n (M : Nat) (A B : Option Addr) (c d n k : Nat) (zs : List Int) (l : List Acc) (w : World) (hn : zs.length = n) (hk : l.length = k) (hMB : M ≤ w.heap.size) (hM : MemAt w M A n c zs) (hl : SlAcc w w.heap.size B l) (hm : n ≤ 1000000) (hm2 : k ≤ 1000000) :
    Calls Try.prog 40 #[memV A n c, .slice B k d] w (AllOut M zs l w) := by
  subst hn hk
  exact rall_any M A B c d zs l w hMB hM hl hm hm2
theorem allErr_of (n : Nat) : ∀ (l : List Acc) (zs : List Int), zs.length = n → (∀ a ∈ l, a.err n = 0) → allErr zs l = 0
  | [], _, _, _ => rfl
  | a :: l, zs, hn, h => by
    have h1 := h a (by simp)
    simp only [allErr, hn, h1, if_true]
    exact allErr_of n l _ (by rw [Acc.make_length]; exact hn) (fun b hb => h b (by simp [hb]))
def beginE (l : Ly) : List Int := allCells (List.replicate l.size.toNat 0) (initE l)
theorem beginE_length (l : Ly) : (beginE l).length = l.size.toNat := by simp [beginE, allCells_length]
abbrev seatZ : Array Value := #[.int .i64 0, .bool false, .int .i64 0, .int .i64 0, .int .i64 0, .int .i64 0, .int .i64 0, .slice none 0 0, .int .i64 0, .int .i64 0, .slice none 0 0]
theorem seats_info : (Try.prog.info? 50).map (fun i => (i.zero, i.size, i.bytes)) = some (some (.agg seatZ), 11, 120) := by kernel_rfl
theorem run_make_seats (w : World) (N : Nat) (h : N ≤ 1000000) : (Instr.makeSlice 34 (.int .i64 N) (.int .i64 N)).run Try.prog w = .ok (.slice (some ⟨w.heap.size, 0, none⟩) N N) (w.alloc (.cells (madeCells seatZ (N * 11)) 50)) := run_make_row Try.underlying34 seats_info w N h (by omega)
theorem made_get (cs : Array Value) (N k : Nat) (h : k < N) : (madeCells cs N)[k]? = some (cs[k % cs.size]!) := by simp [madeCells, h]
def startE0 (l : Ly) (n : Nat) : TabE := ⟨beginE l, List.replicate n seatE0, false⟩
/-- The table as it is made. -/
theorem trep_start {w : World} {gt gs g cap n : Nat} {l : Ly} (kt : Bk w gt 36 #[.slice (some ⟨g, 0, none⟩) (beginE l).length cap, .slice (some ⟨gs, 0, none⟩) n n, .bool false]) (ks : Bk w gs 50 (madeCells seatZ (n * 11)))
    (hown : OwnInts w 0 (.slice (some ⟨g, 0, none⟩) (beginE l).length cap) (beginE l)) : TRep w w.heap.size gt gs (startE0 l n) := by
  refine ⟨⟨g, cap, n, by simpa [startE0] using kt, hown⟩, madeCells seatZ (n * 11), ks, by simp [startE0, madeCells], fun k s hs => ?_⟩
  have hk : s = seatE0 ∧ k < n := by
    rw [show (startE0 l n).seats = List.replicate n seatE0 from rfl, List.getElem?_replicate] at hs
    split at hs
    · injection hs with h; exact ⟨h.symm, by assumption⟩
    · cases hs
  obtain ⟨rfl, hk⟩ := hk
  refine ⟨.slice none 0 0, .slice none 0 0, fun j v hj => ?_, ⟨none, 0, rfl, World.ownsRow_nil _ _ _ _, fun a ha => by cases ha⟩, ⟨none, 0, 0, rfl, rfl, fun _ => ⟨rfl, rfl⟩, ?_⟩⟩
  · have hj' : j < 11 := by
      have := (Array.getElem?_eq_some_iff.1 hj).1
      simpa using this
    rw [made_get seatZ (n * 11) (k * 11 + j) (by omega)]
    have e : (k * 11 + j) % (seatZ : Array Value).size = j := by
      show (k * 11 + j) % 11 = j
      omega
    rw [e]
    rw [← hj]
    have hc : j = 0 ∨ j = 1 ∨ j = 2 ∨ j = 3 ∨ j = 4 ∨ j = 5 ∨ j = 6 ∨ j = 7 ∨ j = 8 ∨ j = 9 ∨ j = 10 := by omega
    rcases hc with rfl | rfl | rfl | rfl | rfl | rfl | rfl | rfl | rfl | rfl | rfl <;> rfl
  · intro hl
    simp [seatE0] at hl
theorem below_trans {B : Nat} {a w w' : World} (h1 : Below B a w) (h2 : Below B w w') : Below B a w' := ⟨h2.os.trans h1.os, h2.tape.trans h1.tape, h2.output.trans h1.output, Nat.le_trans h1.size h2.size, fun b hb => (h2.block b hb).trans (h1.block b hb)⟩
theorem below_grown {B b n sz : Nat} {w w' : World} {v : Value} {xs : List Value} {e : TypeId} (hrow : w.ownsRow b e sz v n xs) (hg : w.grownBy w' v.ownBlock) (hB : B ≤ b) (hs : B ≤ w.heap.size) : Below B w w' := below_grow (Below.refl B w) hrow hg hs hB
def bgT : Nat → Nat | 2 => 15 | 6 => 19 | 7 => 20 | 8 => 21 | 9 => 12 | 10 => 22 | 11 => 23 | 12 => 24 | 13 => 6 | 15 => 7 | 16 => 8 | _ => 30
def bgP : Nat → List Nat | 7 => [2, 6] | 8 => [7] | 9 => [8] | 10 => [9] | 11 => [9] | 12 => [9] | 14 => [8, 10, 13] | 15 => [11] | 16 => [12] | _ => []
def bgR (B N : Nat) (l : Ly) (i : Nat) (val : Nat → Option Value) (v : Value) (w : World) : Prop :=
  match i with
  | 2 => val 7 = none → w.ownsRow B 61 4 v (initA l).length (accCells (initA l))
  | 6 => val 7 = none → ∃ g, v = .slice (some ⟨g, 0, none⟩) 1 1 ∧ B ≤ g ∧ Bk w g 61 #[.int .i64 2, .int .i64 l.era, .int .i64 0, .int .i64 1]
  | 7 => val 8 = none → ∃ A c, v = .slice A (initE l).length c ∧ SlAcc w w.heap.size A (initE l)
  | 8 => ∃ g c r e, v = .tuple #[memV (some ⟨g, 0, none⟩) N c, r, e] ∧ OwnInts w 0 (.slice (some ⟨g, 0, none⟩) N c) (beginE l)
  | 9 => ∃ a b c, v = .tuple #[a, b, c] ∧ val 8 = some v
  | 10 => ∃ b c, val 8 = some (.tuple #[v, b, c])
  | 13 => ∃ g, v = .pointer (some ⟨g, 0, none⟩) ∧ B ≤ g ∧ (val 14 = none → Bk w g 33 #[.slice none 0 0])
  | 14 => ∃ g A c b d, val 13 = some (.pointer (some ⟨g, 0, none⟩)) ∧ val 8 = some (.tuple #[memV A N c, b, d]) ∧ Bk w g 33 #[.slice A N c]
  | _ => True
def bgG (B i : Nat) (w1 w2 : World) : Prop := if i = 14 then KeptT 33 w1 w2 ∧ Below B w1 w2 else if i = 7 then KeptT 61 w1 w2 ∧ Below B w1 w2 else Below w1.heap.size w1 w2
theorem bgR_keep (B N : Nat) (l : Ly) (i j : Nat) (hij : i ≠ j) (val : Nat → Option Value) (v u : Value) (w1 w2 : World) (hi : val i = some v) (hj : val j = none) (hp : ∀ p ∈ bgP j, ∃ x, val p = some x) (h : bgR B N l i val v w1) (hg : bgG B j w1 w2) : bgR B N l i (upd val j u) v w2 := by
  have hv : ∀ k x, val k = some x → upd val j u k = some x := fun k x hk => by
    simp only [upd]
    split
    · rename_i e; subst e; rw [hj] at hk; cases hk
    · exact hk
  have hn : ∀ k, upd val j u k = none → val k = none ∧ k ≠ j := fun k hk => by
    simp only [upd] at hk
    split at hk
    · cases hk
    · rename_i e; exact ⟨hk, e⟩
  have hown : ∀ {b sz n : Nat} {v : Value} {xs : List Value} {t : TypeId}, t ≠ 33 → (t ≠ 61 ∨ j ≠ 7) → w1.ownsRow b t sz v n xs → w2.ownsRow b t sz v n xs := by
    intro b sz n v xs t ht ht2 ho
    unfold bgG at hg
    split at hg
    · exact own_keptT ho hg.1 ht
    · split at hg
      · rename_i e
        exact own_keptT ho hg.1 (ht2.resolve_right (fun q => q e))
      · exact own_keepb ho hg
  have hbk : ∀ {g : Nat} {t : TypeId} {cs : Array Value}, (t ≠ 33 ∨ j ≠ 14) → (t ≠ 61 ∨ j ≠ 7) → Bk w1 g t cs → Bk w2 g t cs := by
    intro g t cs h1 h2 k
    unfold bgG at hg
    split at hg
    · rename_i e
      exact k.keptT hg.1 (h1.resolve_right (fun q => q e))
    · split at hg
      · rename_i e
        exact k.keptT hg.1 (h2.resolve_right (fun q => q e))
      · exact k.keep hg
  have h8 : j = 14 → ∃ x, val 8 = some x := fun e => hp 8 (by rw [e]; simp [bgP])
  have hbelow : j ≠ 14 → j ≠ 7 → Below w1.heap.size w1 w2 := fun e e2 => by unfold bgG at hg; rwa [if_neg e, if_neg e2] at hg
  have hcase : i = 2 ∨ i = 6 ∨ i = 7 ∨ i = 8 ∨ i = 9 ∨ i = 10 ∨ i = 13 ∨ i = 14 ∨ (i ≠ 2 ∧ i ≠ 6 ∧ i ≠ 7 ∧ i ≠ 8 ∧ i ≠ 9 ∧ i ≠ 10 ∧ i ≠ 13 ∧ i ≠ 14) := by omega
  rcases hcase with rfl | rfl | rfl | rfl | rfl | rfl | rfl | rfl | ⟨n1, n2, n3, n4, n5, n6, n7, n8⟩
  · intro hq
    exact hown (by decide) (.inr (hn 7 hq).2.symm) (h (hn 7 hq).1)
  · intro hq
    obtain ⟨g, h1, h2, h3⟩ := h (hn 7 hq).1
    exact ⟨g, h1, h2, hbk (.inl (by decide)) (.inr (hn 7 hq).2.symm) h3⟩
  · intro hq
    obtain ⟨A, c, h1, h2⟩ := h (hn 8 hq).1
    refine ⟨A, c, h1, h2.keepb (hbelow (fun e => ?_) (fun e => hij e.symm))⟩
    obtain ⟨x, hx⟩ := h8 e
    rw [(hn 8 hq).1] at hx
    cases hx
  · obtain ⟨g, c, r, e, h1, h2⟩ := h
    exact ⟨g, c, r, e, h1, hown (by decide) (.inl (by decide)) h2⟩
  · obtain ⟨a, b, c, h1, h2⟩ := h
    exact ⟨a, b, c, h1, hv _ _ h2⟩
  · obtain ⟨b, c, h1⟩ := h
    exact ⟨b, c, hv _ _ h1⟩
  · obtain ⟨g, h1, h2, h3⟩ := h
    exact ⟨g, h1, h2, fun hq => hbk (.inr (hn 14 hq).2.symm) (.inl (by decide)) (h3 (hn 14 hq).1)⟩
  · obtain ⟨g, A, c, b, d, h1, h2, h3⟩ := h
    exact ⟨g, A, c, b, d, hv _ _ h1, hv _ _ h2, hbk (.inr (fun e => hij e.symm)) (.inl (by decide)) h3⟩
  · unfold bgR
    split <;> first | contradiction | trivial
def BeginPost (l : Ly) (n : Nat) (w : World) (e : Ending) (w' : World) : Prop := ∃ gt gs, e = .returned (ptr gt) ∧ w.heap.size ≤ gt ∧ w.heap.size ≤ gs ∧ TRep w' w'.heap.size gt gs (startE0 l n) ∧ Below w.heap.size w w'
set_option maxRecDepth 100000 in
set_option maxHeartbeats 4000000 in
theorem begin_any (l : Ly) (n : Nat) (w : World) (f : LyFull l) (hn : n ≤ 8) (h1 : 1 ≤ l.c.nodes) (h2 : l.c.nodes ≤ 1000) (hs0 : 1 ≤ l.size) (hs1 : l.size ≤ 1000) (hE : allErr (List.replicate l.size.toNat 0) (initE l) = 0) : Calls Try.prog 20 #[lyV l, .int .i64 n] w (BeginPost l n w) := by
  have F := Lib.hid f
  have HB := Lib.hid hE
  have k0 := Bk.made w 40 (lyC l)
  have hbl := below_al (Below.refl w.heap.size w) (.cells (lyC l) 40)
  obtain ⟨inf, hri⟩ := acc_rowT
  clear f hE
  go_enter Try.func20, Try.ntmps20
  go_upto_region 1 with fail
  generalize w.alloc (.cells (lyC l) 40) = w1 at *
  obtain ⟨N, hN⟩ : ∃ N : Nat, l.size = N := ⟨l.size.toNat, by omega⟩
  have hN1 : 1 ≤ N ∧ N ≤ 1000 := by omega
  have HN := Lib.hid hN
  have q24 := k0.cell 24
  have l24 := k0.lt
  simp at q24
  rw [hN] at q24
  clear hs0 hs1 hN
  go_wp2_with fail
  (with_reducible refine (new_any N _ (by omega)).mono ?_)
  rintro e w2 ⟨g0, rfl, hown, hb⟩
  replace k0 := k0.keep hb
  replace hbl := below_tr hbl hb
  clear hb q24 l24
  have hown0 := own_lower hown (Nat.zero_le _)
  clear hown
  go_upto_region 2 with fail
  have k5 := Bk.made w2 33 #[.slice (some ⟨g0, 0, none⟩) N N]
  have k0' := k0.alloc (.cells #[.slice (some ⟨g0, 0, none⟩) N N] 33)
  have hbl' := below_al hbl (.cells #[.slice (some ⟨g0, 0, none⟩) N N] 33)
  have hown1 : OwnInts (w2.alloc (.cells #[.slice (some ⟨g0, 0, none⟩) N N] 33)) 0 (.slice (some ⟨g0, 0, none⟩) N N) (List.replicate N 0) := own_keepb' hown0 (below_al (Below.refl _ _) (.cells #[.slice (some ⟨g0, 0, none⟩) N N] 33))
  clear k0 hbl hown0
  generalize w2.alloc (.cells #[.slice (some ⟨g0, 0, none⟩) N N] 33) = w3 at *
  generalize w2.heap.size = b5 at *
  refine wp_region_E (S := fun w' => Below w3.drew.heap.size w3.drew w') (E := fun _ => false) (by kernel_rfl) ?_
  replace k0' := k0'.drew
  replace k5 := k5.drew
  replace hbl' := hbl'.drew
  replace hown1 : OwnInts w3.drew 0 (.slice (some ⟨g0, 0, none⟩) N N) (List.replicate N 0) := hown1
  generalize w3.drew = w4 at *
  refine wpAnyE_take (i := 0) (oi := _) (v := .agg #[.slice (some ⟨g0, 0, none⟩) N N]) rfl (by kernel_rfl) (by kernel_rfl) (by kernel_rfl) (by kernel_rfl) (fun _ _ _ h => h) (Or.inl ⟨by rfl, ?_⟩) (Below.refl _ _) ?_
  · intro w' hSw
    (try simp only [List.getElem_toArray, List.getElem_cons_zero])
    simp only [execOp, Instr.loadAt, Instr.sureAddr, Sem.run_bind, Sem.run_pure]
    rw [show (Act.eval _ (Operand.tmp 5)) = Value.pointer (some ⟨b5, 0, none⟩) from rfl]
    simp only [Sem.run_pure, Result.andThen_ok, run_loadVar_row w' b5 33 33 #[.slice (some ⟨g0, 0, none⟩) N N] (0, 0) _ (k5.keep hSw) Try.underlying33 rfl (by kernel_rfl)]
  (try simp only [List.getElem_toArray, List.getElem_cons_zero, Act.put, List.setIfInBounds_toArray, List.set_cons_zero, List.set_cons_succ])
  refine wpAnyE_take (i := 1) (oi := _) (v := .agg (lyC l)) rfl (by kernel_rfl) (by kernel_rfl) (by kernel_rfl) (by kernel_rfl) (fun _ _ _ h => h) (Or.inl ⟨by rfl, ?_⟩) (Below.refl _ _) ?_
  · intro w' hSw
    (try simp only [List.getElem_toArray, List.getElem_cons_succ, List.getElem_cons_zero])
    simp only [execOp, Instr.loadAt, Instr.sureAddr, Sem.run_bind, Sem.run_pure]
    rw [show (Act.eval _ (Operand.tmp 2)) = Value.pointer (some ⟨w.heap.size, 0, none⟩) from rfl]
    simp only [Sem.run_pure, Result.andThen_ok, run_loadVar_row w' w.heap.size 40 40 (lyC l) (0, 0) _ (k0'.keep hSw) Try.underlying40 rfl (by kernel_rfl)]
  (try simp only [List.getElem_toArray, List.getElem_cons_succ, List.getElem_cons_zero, Act.put, List.setIfInBounds_toArray, List.set_cons_zero, List.set_cons_succ])
  refine wpAnyE_take (i := 3) (oi := _) (v := .pointer (some ⟨w.heap.size, 11, none⟩)) rfl (by kernel_rfl) (by kernel_rfl) (by kernel_rfl) (by kernel_rfl) (fun _ _ _ h => h) (Or.inl ⟨by rfl, ?_⟩) (Below.refl _ _) ?_
  · intro w' hSw
    (try simp only [List.getElem_toArray, List.getElem_cons_succ, List.getElem_cons_zero])
    go_simp
  (try simp only [List.getElem_toArray, List.getElem_cons_succ, List.getElem_cons_zero, Act.put, List.setIfInBounds_toArray, List.set_cons_zero, List.set_cons_succ])
  refine wpAnyE_take (i := 4) (oi := _) (v := .int .i64 l.era) rfl (by kernel_rfl) (by kernel_rfl) (by kernel_rfl) (by kernel_rfl) (fun _ _ _ h => h) (Or.inl ⟨by rfl, ?_⟩) (Below.refl _ _) ?_
  · intro w' hSw
    have s1 := (k0'.keep hSw).cell 11
    (try simp at s1)
    (try simp only [List.getElem_toArray, List.getElem_cons_succ, List.getElem_cons_zero])
    go_simp
  (try simp only [List.getElem_toArray, List.getElem_cons_succ, List.getElem_cons_zero, Act.put, List.setIfInBounds_toArray, List.set_cons_zero, List.set_cons_succ])
  refine wpAnyE_take (i := 5) (oi := _) (v := .agg #[.int .i64 2, .int .i64 l.era, .int .i64 0, .int .i64 1]) rfl (by kernel_rfl) (by kernel_rfl) (by kernel_rfl) (by kernel_rfl) (fun _ _ _ h => h) (Or.inl ⟨by rfl, ?_⟩) (Below.refl _ _) ?_
  · intro w' hSw
    (try simp only [List.getElem_toArray, List.getElem_cons_succ, List.getElem_cons_zero])
    go_simp
  (try simp only [List.getElem_toArray, List.getElem_cons_succ, List.getElem_cons_zero, Act.put, List.setIfInBounds_toArray, List.set_cons_zero, List.set_cons_succ])
  have hlen2 : (initE l).length = (initA l).length + 1 := by simp [initE]
  have hil : (initA l).length ≤ 1001 := by rw [initA_eq]; simp [linksA]; omega
  have hie : (initE l).length ≤ 1002 := by omega
  have HL2 := Lib.hid hlen2
  clear hlen2
  refine wpAnyE_dag (U := [2, 6, 7, 8, 9, 10, 11, 12, 13, 14, 15, 16]) (tmp := bgT) (pre := bgP) (T := fun w2 => Below w4.heap.size w4 w2) (N := fun _ _ => True) (G := bgG w4.heap.size) (R := bgR w4.heap.size N l) (by kernel_rfl) (fun _ _ => rfl) (fun w2 h => h) (Below.refl _ _) (fun i hi w2 w3 h1 h2 => ?_) (fun _ _ => trivial) (fun _ _ _ _ _ _ _ _ _ _ => trivial)
    (fun i hi j hj hij val v u w2 w3 hT hvi hvj hp hr hg => bgR_keep _ _ _ i j hij val v u w2 w3 hvi hvj hp hr hg) (fun i hi o ho val w2 K hvn hb2 _ hpre hK => ?_) 0 (fun val w2 hall hb2 => ?_)
  · unfold bgG at h2
    split at h2
    · exact below_trans h1 h2.2
    · split at h2
      · exact below_trans h1 h2.2
      · exact below_tr h1 h2
  · simp only [List.mem_cons, List.not_mem_nil, or_false] at hi
    rcases hi with rfl | rfl | rfl | rfl | rfl | rfl | rfl | rfl | rfl | rfl | rfl | rfl
    · obtain rfl := Option.some.inj ho
      simp only [bgP, actOf]
      go_simp
      (with_reducible refine (rinit_any l _ F.out h1 h2).mono ?_)
      rintro e w3 ⟨v, rfl, hrow, hb⟩
      exact hK _ _ (fun _ => own_lower hrow hb2.size) hb
    · obtain rfl := Option.some.inj ho
      simp only [bgP, actOf] at hK ⊢
      go_simp
      exact hK _ _ (fun _ => ⟨_, rfl, hb2.size, Bk.made _ _ _⟩) (below_al (Below.refl _ _) _)
    · obtain rfl := Option.some.inj ho
      obtain ⟨v2, e2, r2⟩ := hpre 2 (by simp [bgP])
      have hrow := r2 hvn
      obtain ⟨v6, e6, r6⟩ := hpre 6 (by simp [bgP])
      obtain ⟨g6, rfl, hg6, k6⟩ := r6 hvn
      simp only [bgP, actOf, e2, e6, bgT] at hK ⊢
      refine oper_append hri (.tmp 15) (.tmp 19) rfl w4.heap.size v2 (initA l).length (accCells (initA l)) rfl hrow (some ⟨g6, 0, none⟩) 1 1 _ rfl (row_src k6 rfl k6.lt) (by simp [Value.oneCell']) (by omega) (by omega) hb2.size (fun v9 w6 hrow6 hgrow => ?_)
      have hb7 := below_grown hrow hgrow (Nat.le_refl _) hb2.size
      refine hK _ _ (fun _ => ?_) ⟨keptT_grown hrow hgrow, hb7⟩
      obtain ⟨GA, cA, rfl⟩ := own_slice hrow6
      refine ⟨GA, cA, by rw [HL2.out], own_slAcc (base := w4.heap.size) (cap := cA) (n := (initA l).length + 1) ?_ HL2.out⟩
      rw [initE, accCells_append]
      exact hrow6
    · obtain rfl := Option.some.inj ho
      obtain ⟨v7, e7, r7⟩ := hpre 7 (by simp [bgP])
      obtain ⟨A, c, rfl, hsl⟩ := r7 hvn
      simp only [bgP, actOf, e7, bgT] at hK ⊢
      go_simp
      have hB := HB.out
      rw [HN.out, Int.toNat_natCast] at hB
      have he : (List.replicate N (0 : Int)).length = N := by simp
      have hME : MemAt w2 0 (some ⟨g0, 0, none⟩) N N (List.replicate N 0) := by
        exact MemAt.of_own (own_keepb' hown1 hb2) (by simp) (Nat.zero_le _)
      (with_reducible refine (rall_n 0 (some ⟨g0, 0, none⟩) A N c N (initE l).length (List.replicate N 0) (initE l) _ he rfl (Nat.zero_le _) hME hsl (by omega) (by omega)).mono ?_)
      rintro e w3 ⟨A', c', R, d, rfl, hM, -, hb⟩
      unfold allCellsOut at hM
      rw [if_pos hB] at hM
      have hbm : allCells (List.replicate N 0) (initE l) = beginE l := by rw [beginE, HN.out]; rfl
      rw [hbm, he] at hM
      obtain ⟨g2, rfl, hown2⟩ := memAt_own hM (by omega)
      refine hK _ _ ⟨g2, c', _, _, by rw [he], hown2⟩ hb
    · obtain rfl := Option.some.inj ho
      obtain ⟨v8, e8, g, c, r, e, rfl, hown⟩ := hpre 8 (by simp [bgP])
      simp only [bgP, actOf, e8, bgT] at hK ⊢
      go_simp
      exact hK _ _ ⟨_, _, _, rfl, by simp [upd, e8]⟩ (Below.refl _ _)
    · obtain rfl := Option.some.inj ho
      obtain ⟨v9, e9, a, b, c, rfl, e8⟩ := hpre 9 (by simp [bgP])
      simp only [bgP, actOf, e9, bgT] at hK ⊢
      go_simp
      exact hK _ _ ⟨b, c, by simp [upd, e8]⟩ (Below.refl _ _)
    · obtain rfl := Option.some.inj ho
      obtain ⟨v9, e9, a, b, c, rfl, e8⟩ := hpre 9 (by simp [bgP])
      simp only [bgP, actOf, e9, bgT] at hK ⊢
      go_simp
      exact hK _ _ trivial (Below.refl _ _)
    · obtain rfl := Option.some.inj ho
      obtain ⟨v9, e9, a, b, c, rfl, e8⟩ := hpre 9 (by simp [bgP])
      simp only [bgP, actOf, e9, bgT] at hK ⊢
      go_simp
      exact hK _ _ trivial (Below.refl _ _)
    · obtain rfl := Option.some.inj ho
      simp only [bgP, actOf] at hK ⊢
      go_simp
      exact hK _ _ ⟨_, rfl, hb2.size, fun _ => Bk.made _ _ _⟩ (below_al (Below.refl _ _) _)
    · obtain rfl := Option.some.inj ho
      obtain ⟨v8, e8, g, c, r, e, rfl, hown⟩ := hpre 8 (by simp [bgP])
      obtain ⟨v10, e10, b9, c9, h9⟩ := hpre 10 (by simp [bgP])
      rw [e8] at h9
      injection h9 with h9
      injection h9 with h9
      obtain ⟨rfl, rfl, rfl⟩ : memV (some ⟨g, 0, none⟩) N c = v10 ∧ r = b9 ∧ e = c9 := by simpa using h9
      obtain ⟨v13, e13, ga, rfl, hga, k13⟩ := hpre 13 (by simp [bgP])
      have ka := k13 hvn
      have f0 := ka.free 0
      have l0 := ka.lt
      have q0 := ka.cell 0
      simp at q0
      simp only [bgP, actOf, e8, e10, e13, bgT] at hK ⊢
      go_simp
      refine hK undef _ ⟨ga, some ⟨g, 0, none⟩, c, r, e, by simp [upd, e13], by simp [upd, e8], ka.stored 0 _⟩ ⟨keptT_set ka 0 _, ⟨rfl, rfl, rfl, by simp [World.setCell], fun b hb => Below.heap_setCell w2 ⟨ga, 0, none⟩ _ b (show b ≠ ga by omega)⟩⟩
    · obtain rfl := Option.some.inj ho
      obtain ⟨v11, e11, -⟩ := hpre 11 (by simp [bgP])
      simp only [bgP, actOf, e11, bgT] at hK ⊢
      go_simp
      exact hK _ _ trivial (Below.refl _ _)
    · obtain rfl := Option.some.inj ho
      obtain ⟨v12, e12, -⟩ := hpre 12 (by simp [bgP])
      simp only [bgP, actOf, e12, bgT] at hK ⊢
      go_simp
      exact hK _ _ trivial (Below.refl _ _)
  · obtain ⟨v2, e2, -⟩ := hall 2 (by simp)
    obtain ⟨v6, e6, -⟩ := hall 6 (by simp)
    obtain ⟨v7, e7, -⟩ := hall 7 (by simp)
    obtain ⟨v8, e8, g, c, r, e, rfl, hown⟩ := hall 8 (by simp)
    obtain ⟨v9, e9, -⟩ := hall 9 (by simp)
    obtain ⟨v10, e10, -⟩ := hall 10 (by simp)
    obtain ⟨v11, e11, -⟩ := hall 11 (by simp)
    obtain ⟨v12, e12, -⟩ := hall 12 (by simp)
    obtain ⟨v13, e13, ga, rfl, hga, -⟩ := hall 13 (by simp)
    obtain ⟨v14, e14, gb, A, c', b', d', h13, h8, kb⟩ := hall 14 (by simp)
    obtain ⟨v15, e15, -⟩ := hall 15 (by simp)
    obtain ⟨v16, e16, -⟩ := hall 16 (by simp)
    rw [e13] at h13
    injection h13 with h13
    injection h13 with h13
    injection h13 with h13
    injection h13 with h13
    subst h13
    rw [e8] at h8
    injection h8 with h8
    injection h8 with h8
    obtain ⟨⟨rfl, rfl⟩, rfl, rfl⟩ : (some ⟨g, 0, none⟩ = A ∧ c = c') ∧ r = b' ∧ e = d' := by simpa using h8
    clear hall h8
    refine wpAnyE_done (by simp only [lstOf, e2, e6, e7, e8, e9, e10, e11, e12, e13, e14, e15, e16, Option.isSome_some, if_true]; kernel_rfl) ?_ _
    simp only [actOf, e2, e6, e7, e8, e9, e10, e11, e12, e13, e14, e15, e16, bgT]
    (try simp only [Act.put, List.setIfInBounds_toArray, List.set_cons_zero, List.set_cons_succ])
    clear e2 e6 e7 e8 e9 e10 e11 e12 e13 e14 e15 e16
    have hbz := below_tr hbl' hb2
    clear hbl' hb2 k0' k5 hown1
    go_upto_region 3 with fail
    refine wp_region_E (S := fun w' => Below w2.drew.heap.size w2.drew w') (E := fun _ => false) (by kernel_rfl) ?_
    replace kb := kb.drew
    replace hbz := hbz.drew
    replace hown : OwnInts w2.drew 0 (.slice (some ⟨g, 0, none⟩) N c) (beginE l) := hown
    generalize w2.drew = w5 at *
    refine wpAnyE_take (i := 0) (oi := _) (v := .agg #[.slice (some ⟨g, 0, none⟩) N c]) rfl (by kernel_rfl) (by kernel_rfl) (by kernel_rfl) (by kernel_rfl) (fun _ _ _ h => h) (Or.inl ⟨by rfl, ?_⟩) (Below.refl _ _) ?_
    · intro w' hSw
      (try simp only [List.getElem_toArray, List.getElem_cons_zero])
      simp only [execOp, Instr.loadAt, Instr.sureAddr, Sem.run_bind, Sem.run_pure]
      rw [show (Act.eval _ (Operand.tmp 6)) = Value.pointer (some ⟨ga, 0, none⟩) from rfl]
      simp only [Sem.run_pure, Result.andThen_ok, run_loadVar_row w' ga 33 33 #[.slice (some ⟨g, 0, none⟩) N c] (0, 0) _ (kb.keep hSw) Try.underlying33 rfl (by kernel_rfl)]
    (try simp only [List.getElem_toArray, List.getElem_cons_zero, Act.put, List.setIfInBounds_toArray, List.set_cons_zero, List.set_cons_succ])
    refine wpAnyE_take (i := 1) (oi := _) (v := .int .i64 n) rfl (by kernel_rfl) (by kernel_rfl) (by kernel_rfl) (by kernel_rfl) (fun _ _ _ h => h) (Or.inl ⟨by rfl, ?_⟩) (Below.refl _ _) ?_
    · intro w' hSw
      (try simp only [List.getElem_toArray, List.getElem_cons_succ, List.getElem_cons_zero])
      go_simp
    (try simp only [List.getElem_toArray, List.getElem_cons_succ, List.getElem_cons_zero, Act.put, List.setIfInBounds_toArray, List.set_cons_zero, List.set_cons_succ])
    refine wpAnyE_one (i := 2) (o := _) (by kernel_rfl) rfl (fun K hK => ?_)
    rw [if_pos (by rfl)]
    refine oper_make _ _ rfl n _ rfl rfl (run_make_seats _ n (by omega)) ?_
    have ks := Bk.made w5 50 (madeCells seatZ (n * 11))
    have kb6 := kb.alloc (.cells (madeCells seatZ (n * 11)) 50)
    have hown6 := World.ownsRow.alloc hown (.cells (madeCells seatZ (n * 11)) 50)
    have hb6 := below_al hbz (.cells (madeCells seatZ (n * 11)) 50)
    refine hK.out _ _ (fun _ => below_al (Below.refl _ _) _) ?_
    clear hK K
    (try simp only [List.getElem_toArray, List.getElem_cons_succ, List.getElem_cons_zero, Act.put, List.setIfInBounds_toArray, List.set_cons_zero, List.set_cons_succ])
    generalize hw6 : w5.alloc (.cells (madeCells seatZ (n * 11)) 50) = w6 at *
    have h56 : Below w5.heap.size w5 w6 := by rw [← hw6]; exact below_al (Below.refl _ _) _
    have hgs : w.heap.size ≤ w5.heap.size := hbz.size
    obtain ⟨gs, hgse⟩ : ∃ z, w5.heap.size = z := ⟨_, rfl⟩
    have h57 : Below w5.heap.size w5 (w6.alloc (.cells #[.slice (some ⟨g, 0, none⟩) N c, .slice (some ⟨gs, 0, none⟩) n n, .bool false] 36)) := below_al h56 _
    rw [hgse] at ks hgs h56 h57
    clear hw6
    rw [hgse]
    clear hgse
    refine wpAnyE_take (i := 3) (oi := _) (v := .agg #[.slice (some ⟨g, 0, none⟩) N c, .slice (some ⟨gs, 0, none⟩) n n, .bool false]) rfl (by kernel_rfl) (by kernel_rfl) (by kernel_rfl) (by kernel_rfl) (fun _ _ _ h => h) (Or.inl ⟨by rfl, ?_⟩) h56 ?_
    · intro w' hSw
      (try simp only [List.getElem_toArray, List.getElem_cons_succ, List.getElem_cons_zero])
      go_simp
    (try simp only [List.getElem_toArray, List.getElem_cons_succ, List.getElem_cons_zero, Act.put, List.setIfInBounds_toArray, List.set_cons_zero, List.set_cons_succ])
    refine wpAnyE_one (i := 4) (o := _) (by kernel_rfl) rfl (fun K hK => ?_)
    (try simp only [List.getElem_toArray, List.getElem_cons_succ, List.getElem_cons_zero])
    go_simp
    refine hK.out _ _ (fun _ => h57) ?_
    clear hK K
    (try simp only [List.getElem_toArray, List.getElem_cons_succ, List.getElem_cons_zero, Act.put, List.setIfInBounds_toArray, List.set_cons_zero, List.set_cons_succ])
    refine wpAnyE_take (i := 5) (oi := _) (v := .pointer (some ⟨w6.heap.size, 0, none⟩)) rfl (by kernel_rfl) (by kernel_rfl) (by kernel_rfl) (by kernel_rfl) (fun _ _ _ h => h) (Or.inl ⟨by rfl, ?_⟩) h57 ?_
    · intro w' hSw
      (try simp only [List.getElem_toArray, List.getElem_cons_succ, List.getElem_cons_zero])
      go_simp
    (try simp only [List.getElem_toArray, List.getElem_cons_succ, List.getElem_cons_zero, Act.put, List.setIfInBounds_toArray, List.set_cons_zero, List.set_cons_succ])
    refine wpAnyE_done (by kernel_rfl) ?_ _
    go_wp2
    go_ret
    have hlen : (beginE l).length = N := by rw [beginE_length, HN.out]; omega
    refine ⟨w6.heap.size, gs, rfl, hb6.size, hgs, trep_start (g := g) (cap := c) (by rw [hlen]; exact Bk.made _ _ _) (ks.alloc _) (by rw [hlen]; exact World.ownsRow.alloc hown6 _), below_al hb6 _⟩
end Go.Proofs.Ytgjdjgainjedhaa
