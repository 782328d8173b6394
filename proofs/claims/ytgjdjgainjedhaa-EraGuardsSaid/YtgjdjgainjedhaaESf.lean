/- arena.List, up to nine nodes. The table's holds. Printed by ho_gen.py. The table's safe. Printed by sf_gen.py. -/
import Derived.Test.YtgjdjgainjedhaaERun
import Derived.Test.YtgjdjgainjedhaaETab
import Derived.Test.YtgjdjgainjedhaaMemN
import Derived.Test.YtgjdjgainjedhaaLayN
import Derived.Test.YtgjdjgainjedhaaCell
import Derived.Test.YtgjdjgainjedhaaETu
import Derived.BigQuiet
namespace Go.Proofs.Ytgjdjgainjedhaa
open Go.RowKit
set_option linter.unusedVariables false
attribute [local go_sem ↓] Go.wp_at_zero Go.wp_at_succ

set_option maxHeartbeats 2000000 in
theorem at_any (gm : Nat) (A : Option Addr) (c : Nat) (zs : List Int) (n : Nat) (k : Int) (w : World) (kM : Bk w gm 33 #[.slice A n c]) (hn : zs.length = n) (h : SlInt w w.heap.size A zs) (h0 : 0 ≤ k) (h1 : k < n) :
    Calls Try.prog 23 #[.int .i64 k, ptr gm] w (IntBelow (zs.getD k.toNat 0) w) := by
  obtain ⟨j, rfl⟩ : ∃ j : Nat, k = j := ⟨k.toNat, by omega⟩
  have g0 : decide ((j : Int) < 0) = false := by simp
  have g1 : decide ((n : Int) ≤ j) = false := by simp; omega
  obtain ⟨x, hx⟩ : ∃ x, zs[j]? = some x := ⟨_, List.getElem?_eq_getElem (by omega)⟩
  have e : zs.getD (j : Int).toNat 0 = x := by simp [hx]
  rw [e]
  obtain ⟨b, o, hA, hbb, hc⟩ := h (by omega)
  have q := hc j x hx
  subst hA
  have i1 : (j : Int) < n := by omega
  have q0 := kM.cell 0
  simp at q0
  clear e hc h hx hn kM
  go_enter Try.func23, Try.ntmps23
  go_wp2
  go_ret
  exact ⟨rfl, Below.refl _ _⟩
def toldOf (N : Nat) (L : List Int) : Array Value := ((List.range (N + 1)).map fun (a : Nat) => Value.bool (decide ((a : Int) ∈ L))).toArray
theorem Chain.drop {f : Int → Int} : ∀ {L : List Int}, Chain f L → ∀ k, Chain f (L.drop k)
  | _, h, 0 => h
  | [], _, _ + 1 => trivial
  | _ :: _, h, k + 1 => Chain.drop h.2 k
def lenOf : Value → Nat
  | .slice _ n _ => n
  | _ => 0
theorem told_set (N : Nat) (L : List Int) (a : Nat) (h : a ≤ N) : (toldOf N L).setIfInBounds a (.bool true) = toldOf N (L ++ [(a : Int)]) := by
  apply Array.ext
  · simp [toldOf]
  · intro i h1 h2
    simp [toldOf]
    by_cases e : a = i
    · subst e; simp
    · have : ¬ ((i : Int) = a) := by omega
      simp [e, this]
theorem row_news1 {w : World} (v : Value) : ∀ (j : Nat) (u : Value), [v][j]? = some u → (w.alloc (.cells #[v] 3)).cell? ((⟨w.heap.size, 0, none⟩ : Addr).add j) = some u := by
  intro j u hu
  rw [Go.WideShapes.add_plain, Nat.zero_add, (Bk.made w 3 #[v]).cell j]
  simpa using hu
def LsRel (w : World) (b0 bM gB N : Nat) (l : Ly) (mc : Array Value) (L : List Int) (v7 v8 : Value) (wr : World) : Prop :=
  ∃ k : Nat, k ≤ L.length ∧ v8 = .int .i64 ((L.drop k).headD 0) ∧ Below w.heap.size w wr ∧ Bk wr b0 40 (lyC l) ∧ Bk wr bM 33 mc ∧ Bk wr gB 4 (toldOf N (L.take k)) ∧ OwnInts wr w.heap.size v7 (L.take k)
theorem bool_info : (Try.prog.info? 4).map (fun i => (i.zero, i.size, i.bytes)) = some (some (.bool false), 1, 1) := by kernel_rfl
theorem run_make_bools (w : World) (N : Nat) (h : N ≤ 1000000) : (Instr.makeSlice 80 (.int .i64 N) (.int .i64 N)).run Try.prog w = .ok (.slice (some ⟨w.heap.size, 0, none⟩) N N) (w.alloc (.cells (madeCells #[.bool false] (N * 1)) 4)) := run_make_row Try.underlying80 bool_info w N h (by omega)
theorem told_nil (N : Nat) : madeCells #[Value.bool false] ((N + 1) * 1) = toldOf N [] := by
  apply Array.ext
  · simp [toldOf, madeCells]
  · intro i h1 h2
    simp [toldOf, madeCells, Nat.mod_one]
set_option maxRecDepth 100000 in
set_option maxHeartbeats 4000000 in
theorem list_any (l : Ly) (A : Option Addr) (c n : Nat) (zs : List Int) (L : List Int) (w : World) (f : LyFull l) (w0 : 1 ≤ l.c.nodes ∧ l.c.nodes ≤ 9) (h : SlInt w w.heap.size A zs) (hn : zs.length = n)
    (hfr : 0 ≤ l.free ∧ l.free < n) (hnd : ∀ a, 1 ≤ a ∧ a ≤ l.c.nodes → 0 ≤ nodeAt l a 7 ∧ nodeAt l a 7 < n) (hidx : idxOf (freeOf l zs) = L.headD 0) (hch : Chain (linkOf l zs) L) (hin : ∀ a ∈ L, 1 ≤ a ∧ a ≤ l.c.nodes) (hnod : L.Nodup) (hLl : L.length ≤ 1000) :
    Calls Try.prog 11 #[lyV l, .agg #[.slice A n c]] w fun e w' => ∃ B d, e = .returned (.slice B L.length d) ∧ OwnInts w' w.heap.size (.slice B L.length d) L ∧ Below w.heap.size w w' := by
  have k0 := (Bk.made w 40 (lyC l)).alloc (.cells #[.slice A n c] 33)
  have kM := Bk.new (w.alloc (.cells (lyC l) 40)) (g := w.heap.size + 1) (by simp) 33 #[.slice A n c]
  have hbl := below_al (below_al (Below.refl w.heap.size w) (.cells (lyC l) 40)) (.cells #[.slice A n c] 33)
  have F := Lib.hid f
  have HS := Lib.hid (And.intro h hn)
  have HP := Lib.hid (And.intro hnd (And.intro hidx (And.intro hch (And.intro hin hnod))))
  have hmax : ∀ (w : World) (ts : Array TypeId) (t : TypeId), (Builtin.max_ ts t #[.int .i64 l.c.nodes, .int .i64 0]).run Try.prog w = .ok (.int .i64 l.c.nodes) w := fun w ts t => by
    rw [run_max_int2]
    split <;> first | rfl | (congr 2; omega)
  have HW0 := Lib.hid w0
  clear h hn hnd hidx hch hin hnod f w0
  go_enter Try.func11, Try.ntmps11
  go_upto_region 2 with fail
  generalize (w.alloc (.cells (lyC l) 40)).alloc (.cells #[.slice A n c] 33) = w1 at *
  obtain ⟨N, hN⟩ : ∃ N : Nat, l.c.nodes = N := ⟨l.c.nodes.toNat, by have := HW0.out; omega⟩
  have hN6 : 1 ≤ N ∧ N ≤ 9 := by have := HW0.out; omega
  have q1 := k0.cell 1
  have q12 := k0.cell 12
  simp at q1 q12
  rw [hN] at q1 hmax
  have z0 := k0.lt
  have zM := kM.lt
  have HN := Lib.hid hN
  clear hN
  go_wp2_with (refine wpList_make_row rfl _ _ rfl (N + 1) _ rfl rfl (run_make_bools _ (N + 1) (by omega)) ?_)
  have kB := Bk.made w1 4 (madeCells #[.bool false] (N + 1))
  have e0 := told_nil N
  rw [Nat.mul_one] at e0
  rw [e0] at kB
  try rw [e0]
  clear e0
  replace k0 := k0.alloc (.cells (toldOf N []) 4)
  replace kM := kM.alloc (.cells (toldOf N []) 4)
  replace hbl := below_al hbl (.cells (toldOf N []) 4)
  clear q1 q12 hmax zM
  generalize w1.alloc (.cells (toldOf N []) 4) = w2 at *
  have hgB : w.heap.size ≤ w1.heap.size := by omega
  generalize w1.heap.size = gB at *
  have HGB : Hid (w.heap.size ≤ gB) := Lib.hid hgB
  clear hgB
  (with_reducible refine (at_any (w.heap.size + 1) A c zs n l.free _ kM HS.out.2 (by have := HS.out.1.below hbl; exact this.more hbl.size) hfr.1 hfr.2).mono ?_)
  rintro e w3 ⟨rfl, hb⟩
  rw [show zs.getD l.free.toNat 0 = freeOf l zs from rfl]
  replace k0 := k0.keep hb
  replace kM := kM.keep hb
  replace kB := kB.keep hb
  replace hbl := below_tr hbl hb
  clear hb
  obtain ⟨fw, hfw⟩ : ∃ x, freeOf l zs = x := ⟨_, rfl⟩
  rw [hfw]
  go_wp2_with fail
  (with_reducible refine (of_any fw _).mono ?_)
  rintro e w4 ⟨rfl, hb⟩
  replace k0 := k0.keep hb
  replace kM := kM.keep hb
  replace kB := kB.keep hb
  replace hbl := below_tr hbl hb
  clear hb
  have hx : fw % 65536 = L.headD 0 := by rw [← hfw]; exact HP.out.2.1
  rw [hx]
  clear hx hfw
  generalize (fw / 65536 % 2 == 1) = z1
  generalize fw / 131072 % 268435456 = z2
  obtain ⟨hd, hhd⟩ : ∃ x, L.headD 0 = x := ⟨_, rfl⟩
  rw [hhd]
  have HHD := Lib.hid hhd
  clear hhd
  have hf0 : ∀ w : World, (Instr.field 82 (.agg #[.int .i64 hd, .bool z1, .int .i64 z2]) 0).run Try.prog w = .ok (.int .i64 hd) w := fun w => by kernel_rfl
  go_wp2_with fail
  clear hf0
  go_loopw [7, 8] (fun v7 v8 wr => LsRel w w.heap.size (w.heap.size + 1) gB N l #[.slice A n c] L v7 v8 wr) (fun v7 _ _ => L.length - lenOf v7)
  case atStart => exact ⟨0, Nat.zero_le _, by rw [← HHD.out]; rfl, hbl, k0, kM, kB, World.ownsRow_nil _ _ _ _⟩
  case round =>
    obtain ⟨k, hk, rfl, hb, k1, kM1, kB1, hown⟩ := hrel
    clear k0 kM kB hbl
    obtain ⟨G, cg, rfl⟩ := own_slice hown
    have q1 := k1.cell 1
    simp at q1
    rw [HN.out] at q1
    by_cases hlt : k < L.length
    · obtain ⟨a, ha⟩ : ∃ a, L[k]? = some a := ⟨_, List.getElem?_eq_getElem hlt⟩
      obtain ⟨hnd, hidx, hch, hin, hnod⟩ := HP.out
      have hd1 : L.drop k = a :: L.drop (k + 1) := drop_at ha
      have har := hin a (List.mem_of_getElem? ha)
      have hlink : linkOf l zs a = (L.drop (k + 1)).headD 0 := by
        have : Chain (linkOf l zs) (L.drop k) := hch.drop k
        rw [hd1] at this
        exact this.1
      have hnin : ¬ a ∈ L.take k := by
        intro hm
        obtain ⟨j, hj⟩ := List.getElem?_of_mem hm
        have hjl := (List.getElem?_eq_some_iff.1 hj).1
        rw [List.length_take] at hjl
        rw [List.getElem?_take_of_lt (by omega)] at hj
        have := (List.getElem?_inj (by omega) hnod).1 (hj.trans ha.symm)
        omega
      obtain ⟨x, rfl⟩ : ∃ x : Nat, a = x := ⟨a.toNat, by omega⟩
      have hxN : 1 ≤ x ∧ x ≤ N := by have := HN.out; omega
      have hhead : (L.drop k).headD 0 = x := by rw [hd1]; rfl
      have hnode := hnd x har
      have htk : L.take (k + 1) = L.take k ++ [(x : Int)] := by rw [List.take_add_one, ha]; rfl
      have q6 : wr.cell? ⟨gB, x, none⟩ = some (.bool false) := by
        rw [kB1.cell x]
        have : x < N + 1 := by omega
        simp [toldOf, hnin, this]
      have f6 := kB1.free x
      have l6 := kB1.lt
      rw [hhead]
      have kB2 := kB1.stored x (.bool true)
      rw [told_set N (L.take k) x hxN.2, ← htk] at kB2
      have ne1 := bk_ne k1 kB1 (by decide)
      have ne2 := bk_ne kM1 kB1 (by decide)
      have k2 := k1.other (p := ⟨gB, x, none⟩) ne1 (.bool true)
      have kM2 := kM1.other (p := ⟨gB, x, none⟩) ne2 (.bool true)
      have hown2 : OwnInts (wr.setCell ⟨gB, x, none⟩ (.bool true)) w.heap.size (.slice G (L.take k).length cg) (L.take k) := own_keptT hown (keptT_set kB1 x (.bool true)) (by decide)
      have hb2 : Below w.heap.size w (wr.setCell ⟨gB, x, none⟩ (.bool true)) := below_set hb HGB.out _
      have hlk : (L.take k).length = k := by rw [List.length_take]; omega
      unfold OwnInts at hown2
      rw [hlk] at hown2 ⊢
      obtain ⟨nx, hnx⟩ : ∃ c, nodeAt l x 7 = c := ⟨_, rfl⟩
      rw [hnx] at hnode
      have HNX := Lib.hid hnx
      have HL2 := Lib.hid (And.intro ha (And.intro hlink (And.intro htk hlk)))
      have g1 : decide ((1 : Int) ≤ x) = true := by simp; omega
      have g2 : decide ((x : Int) ≤ N) = true := by simp; omega
      have g3 : decide ((x : Int) < N + 1) = true := by simp; omega
      have g4 : (x : Int) < N + 1 := by omega
      clear hidx hch hin hnod hnd hd1 har hlink hnin hhead htk hown hk hnx ha hlk kB1
      go_upto_region 7 with fail
      clear q6 q1 f6 l6 k1 kM1 hb
      generalize wr.setCell ⟨gB, x, none⟩ (.bool true) = w5 at *
      obtain ⟨i0, hi0, hz0, hz1, hz2⟩ := info_parts int_info
      have ho5 := World.ownsRow.alloc hown2 (.cells #[.int .i64 x] 3)
      have hb5 := below_al hb2 (.cells #[.int .i64 x] 3)
      have hba := below_al (Below.refl w5.heap.size w5) (.cells #[.int .i64 x] 3)
      have HO := Lib.hid hown2
      clear hown2
      go_upto_region 8 with (at_builtin; go_must (refine wpList_append_own_at _ rfl (.tmp 41) (.tmp 43) _ rfl w.heap.size 3 i0 _ 1 8 Try.underlying31 hi0 hz0 hz1 hz2 rfl (by omega) (.slice G k cg) k (ints (L.take k)) rfl ho5 ⟨w5.heap.size, 0, none⟩ 1 1 [.int .i64 x] rfl rfl (row_news1 _) (by simp [Value.oneCell']) (by simp only [maxLen]; omega) (by omega) (by simp; have := hb2.size; omega) ?_; intro v9 w6 hrow4 hgrow4 _ _))
      have hk5 := keptT_grown ho5 hgrow4
      have k6 := (k2.keep hba).keptT hk5 (by decide)
      have kM6 := (kM2.keep hba).keptT hk5 (by decide)
      have kB6 := (kB2.keep hba).keptT hk5 (by decide)
      have hb6 := below_grow hb5 ho5 hgrow4 hb5.size (Nat.le_refl _)
      have HR4 := Lib.hid hrow4
      clear hrow4 hk5 hgrow4 ho5 hb5 hba k2 kM2 kB2 hb2 HO
      go_wp2_with (refine wpList_load_row rfl 40 (.tmp 2) rfl w.heap.size rfl 40 (lyC l) (0, 0) _ k6 Try.underlying40 rfl (by kernel_rfl) ?_)
      (with_reducible refine (node_any l x 7 _ F.out (by omega)).mono ?_)
      rintro e w7 ⟨rfl, hb⟩
      rw [HNX.out]
      have k7 := k6.keep hb
      have kM7 := kM6.keep hb
      have kB7 := kB6.keep hb
      have hb7 := below_tr hb6 hb
      have HR7 := Lib.hid (own_keepb' HR4.out hb)
      clear k6 kM6 kB6 hb6 hb HR4
      go_wp2_with fail
      (with_reducible refine (at_any (w.heap.size + 1) A c zs n nx _ kM7 HS.out.2 (by have := HS.out.1.below hb7; exact this.more hb7.size) hnode.1 hnode.2).mono ?_)
      rintro e w8 ⟨rfl, hb⟩
      have k8 := k7.keep hb
      have kM8 := kM7.keep hb
      have kB8 := kB7.keep hb
      have hb8 := below_tr hb7 hb
      have HR8 := Lib.hid (own_keepb' HR7.out hb)
      clear k7 kM7 kB7 hb7 hb HR7
      have hv : zs.getD nx.toNat 0 = (L.drop (k + 1)).headD 0 := by rw [← HL2.out.2.1, ← HNX.out]; rfl
      rw [hv]
      clear hv
      obtain ⟨nn, hnn⟩ : ∃ y, (L.drop (k + 1)).headD 0 = y := ⟨_, rfl⟩
      rw [hnn]
      have HNN := Lib.hid hnn
      clear hnn
      go_wp2_with fail
      obtain ⟨G9, c9, rfl⟩ := own_slice HR8.out
      refine ⟨⟨k + 1, hlt, by rw [HNN.out], hb8, k8, kM8, kB8, ?_⟩, by simp only [lenOf]; omega⟩
      have h := HR8.out
      unfold OwnInts
      rw [HL2.out.2.2.1, List.length_append, HL2.out.2.2.2]
      simpa [ints] using h
    · have hkL : k = L.length := by omega
      subst hkL
      have e0 : (L.drop L.length).headD 0 = 0 := by simp
      rw [e0, List.take_length]
      rw [List.take_length] at hown kB1
      have HO := Lib.hid hown
      clear e0 hown kB1 hk hlt
      go_wp2
      go_ret
      exact ⟨G, cg, rfl, HO.out, hb⟩
end Go.Proofs.Ytgjdjgainjedhaa
namespace Go.Proofs.Ytgjdjgainjedhaa
open Go.RowKit
set_option linter.unusedVariables false
attribute [local go_sem ↓] Go.wp_at_zero Go.wp_at_succ

theorem wp_load_sub {P : Program} {o : Oper} {a : Act} {w : World} {K : Act → World → Prop} {Q : Exit → Act → World → Prop} (ty : TypeId) (x : Operand) (ho : o.op = .load ty x)
    (g b : Nat) (hx : a.eval x = .pointer (some ⟨g, b, none⟩)) (cs : Array Value) (d : TypeDesc) (hc : ∀ (j : Nat) (v : Value), cs[j]? = some v → w.cell? ⟨g, b + j, none⟩ = some v)
    (hu : P.underlying ty = some d) (hd : (match d with | .struct _ | .array _ _ => true | _ => false) = true) (hi : (P.info? ty).map (·.size) = some cs.size)
    (h : K (a.put o.dst (.agg cs)) w) : o.wp P a w K Q := by
  unfold Oper.wp execOp
  simp only [ho, hx, Instr.loadAt, Instr.sureAddr, Sem.run_bind, Sem.run_pure, Result.andThen_ok, run_loadVar_sub w g b ty cs d hc hu hd hi]
  exact h
theorem wpList_load_subG {P : Program} {ops : Array Oper} {rest : List Oper} {o : Oper} {a : Act} {w : World} {Q : Exit → Act → World → Prop} (hgd : Region.wanted o (yielded ops a.tmps) = true) (ty : TypeId) (x : Operand) (ho : o.op = .load ty x)
    (g b : Nat) (hx : a.eval x = .pointer (some ⟨g, b, none⟩)) (cs : Array Value) (d : TypeDesc) (hc : ∀ (j : Nat) (v : Value), cs[j]? = some v → w.cell? ⟨g, b + j, none⟩ = some v)
    (hu : P.underlying ty = some d) (hd : (match d with | .struct _ | .array _ _ => true | _ => false) = true) (hi : (P.info? ty).map (·.size) = some cs.size)
    (h : wpList P ops Q rest (a.put o.dst (.agg cs)) w) : wpList P ops Q (o :: rest) a w := by
  simp only [wpList, hgd, if_true]
  exact .inl (wp_load_sub ty x ho g b hx cs d hc hu hd hi h)
set_option maxRecDepth 1000000 in
set_option maxHeartbeats 8000000 in
theorem holds_any {w : World} {B B0 gt gs n : Nat} {t : TabE} {who : Nat} {s0 : SeatE} {want : List (List Nat)} (tN : Int) (W T' : Option Addr) (c m' d : Nat) (h : TRep w B gt gs t) (hs : t.seats[who]? = some s0) (hW : SlU8s w B0 W want) (hB : B0 ≤ w.heap.size) (hwn : want.length = n) (hlen : t.seats.length = n) (hw3 : n ≤ 3) (hnx : s0.next ≤ (want.getD who []).length ∧ (s0.busy = true → 1 ≤ s0.next)) (hwl : (want.getD who []).length ≤ 1000) (hll : s0.log.length ≤ 1000) (hat : s0.at_ ≤ 3) :
    Calls Try.prog 44 #[ptr gt, .agg (playC tN W n c T' m' d), .int .i64 (who : Nat)] w (BoolBelow (holdsE want who s0) w) := by
  have hwho : who < n := by rw [← hlen]; exact (List.getElem?_eq_some_iff.1 hs).1
  obtain ⟨xs, hxs⟩ : ∃ xs, want[who]? = some xs := ⟨_, List.getElem?_eq_getElem (by omega)⟩
  have hxd : want.getD who [] = xs := by rw [List.getD_eq_getElem?_getD, hxs]; rfl
  rw [hxd] at hnx hwl
  obtain ⟨bW, oW, rfl, hbW, hcW⟩ := hW (by omega)
  obtain ⟨AX, cX, cW, hX⟩ := hcW who xs hxs
  obtain ⟨m, ss, bad⟩ := t
  dsimp only at hs hlen
  have hwl0 : who < ss.length := by omega
  have hba := below_al (Below.refl w.heap.size w) (.cells (playC tN (some ⟨bW, oW, none⟩) n c T' m' d) 25)
  have hbB : Below B0 w (w.alloc (.cells (playC tN (some ⟨bW, oW, none⟩) n c T' m' d) 25)) := ⟨rfl, rfl, rfl, hba.size, fun b hb => hba.block b (by omega)⟩
  have hx := h.top.keep hba
  have kP := Bk.made w 25 (playC tN (some ⟨bW, oW, none⟩) n c T' m' d)
  have hW1 : (w.alloc (.cells (playC tN (some ⟨bW, oW, none⟩) n c T' m' d) 25)).cell? ⟨bW, oW + who, none⟩ = some (.slice AX xs.length cX) := (hbB.cell (p := ⟨bW, _, none⟩) hbW).trans cW
  have hX1 := hX.below hbB
  have HD := Lib.hid hxd
  clear h hW hcW cW hX hbB hxs hxd
  go_enter Try.func44, Try.ntmps44
  go_upto_region 1 with fail
  generalize w.alloc (.cells (playC tN (some ⟨bW, oW, none⟩) n c T' m' d) 25) = w5 at *
  obtain ⟨bL, hbL⟩ : ∃ g, w.heap.size = g := ⟨_, rfl⟩
  have HBL := Lib.hid hbL
  rw [hbL] at kP hB hx ⊢
  clear hbL
  obtain ⟨cc, c1, lT⟩ := hx.c1
  obtain ⟨lv0, gv0, sv0⟩ := hx.seat (who := who) (s := s0) hs
  obtain ⟨G, cG, rfl, -, -⟩ := sv0.log
  obtain ⟨G2, n2, cG2, rfl, -, -, -⟩ := sv0.gone
  have hwi : (who : Int) < ss.length := by omega
  have hwj : (who : Int) < n := by omega
  have HSV := Lib.hid sv0
  clear sv0 hs hx
  go_upto_region 2 with (first
    | (refine wpList_load_subG (by rfl) 50 (.tmp 13) rfl gs (who * 11) rfl (seatC (.slice G s0.log.length cG) (.slice G2 n2 cG2) s0) _ (fun j v h => HSV.out.cells j v h) Try.underlying50 rfl (by kernel_rfl) ?_)
    | (refine wpList_store_new rfl 50 (.tmp 7) (.tmp 14) rfl rfl w5.heap.size _ _ (seatC (.slice G s0.log.length cG) (.slice G2 n2 cG2) s0) rfl rfl rfl rfl (by kernel_rfl) rfl (by simp [Value.oneCell']) ?_))
  have kS := Bk.made w5 50 (seatC (.slice G s0.log.length cG) (.slice G2 n2 cG2) s0)
  have kP2 := kP.alloc (.cells (seatC (.slice G s0.log.length cG) (.slice G2 n2 cG2) s0) 50)
  have hb2 := below_al hba (.cells (seatC (.slice G s0.log.length cG) (.slice G2 n2 cG2) s0) 50)
  have hbj : Below B0 w5 (w5.alloc (.cells (seatC (.slice G s0.log.length cG) (.slice G2 n2 cG2) s0) 50)) := by
    have := below_al (Below.refl w5.heap.size w5) (.cells (seatC (.slice G s0.log.length cG) (.slice G2 n2 cG2) s0) 50)
    have h0 := kP.lt
    exact ⟨rfl, rfl, rfl, this.size, fun b hb => this.block b (by omega)⟩
  have hW2 := (hbj.cell (p := ⟨bW, _, none⟩) hbW).trans hW1
  have hX2 := hX1.below hbj
  have hbl := kP.lt
  clear kP hba hbj hW1 hX1 c1 lT HSV
  generalize w5.alloc (.cells (seatC (.slice G s0.log.length cG) (.slice G2 n2 cG2) s0) 50) = w6 at *
  generalize w5.heap.size = bS at *
  have lS := kS.lt
  have lP := kP2.lt
  have p1 := kP2.cell 1
  have lW : bW < w6.heap.size := by omega
  have e0 := kS.cell 0
  have e1 := kS.cell 1
  have e2 := kS.cell 2
  have e7 := kS.cell 7
  have e8 := kS.cell 8
  simp at p1 e0 e1 e2 e7 e8
  clear kS kP2
  have HB2 := Lib.hid hb2
  clear hb2 hbl
  obtain ⟨nx, hnxe⟩ : ∃ z : Int, ((s0.next : Nat) : Int) = z := ⟨_, rfl⟩
  rw [hnxe] at e0
  obtain ⟨bz, hbz⟩ : ∃ z, s0.busy = z := ⟨_, rfl⟩
  rw [hbz] at e1 hnx
  obtain ⟨az, haz⟩ : ∃ z : Int, ((s0.at_ : Nat) : Int) = z := ⟨_, rfl⟩
  rw [haz] at e2
  obtain ⟨nd, hnd⟩ : ∃ z, s0.node = z := ⟨_, rfl⟩
  rw [hnd] at e8
  obtain ⟨ll, hlle⟩ : ∃ z, s0.log.length = z := ⟨_, rfl⟩
  rw [hlle] at e7 hll
  have HH := Lib.hid (show holdsE want who s0 = (bz && (decide (0 < s0.next) && (decide ((xs.getD (s0.next - 1) 0) % 2 = 1) && (decide (nd ≠ 0) && (decide (s0.at_ = 1) || (decide (s0.at_ = 2) || (decide (s0.at_ = 3) && decide (ll = 0)))))))) by unfold holdsE; rw [HD.out, hbz, hnd, hlle])
  have HAZ := Lib.hid haz
  have HNX := Lib.hid hnxe
  clear hbz haz hnd hlle
  have fin : ∀ (b : Bool) (wz : World), wz.os = w6.os → wz.tape = w6.tape → wz.output = w6.output → wz.heap = w6.heap → holdsE want who s0 = b → BoolBelow (holdsE want who s0) w (.returned (.bool b)) wz := by
    intro b wz h1 h2 h3 h4 h5
    refine ⟨by rw [h5], ?_⟩
    have hb := HB2.out
    exact ⟨h1.trans hb.os, h2.trans hb.tape, h3.trans hb.output, by rw [h4]; exact hb.size, fun b' hb' => by rw [h4]; exact hb.block b' hb'⟩
  have FIN := Lib.hid fin
  clear fin
  cases bz with
  | false =>
    clear hnxe hnx
    go_quiet (fail)
    go_wp2_with fail
    go_ret
    exact FIN.out false _ rfl rfl rfl rfl (by rw [HH.out]; rfl)
  | true =>
    have hn1 := hnx.2 rfl
    obtain ⟨j, hj⟩ : ∃ j, s0.next = j + 1 := ⟨s0.next - 1, by omega⟩
    have hjl : j < xs.length := by omega
    have g0 : decide ((0 : Int) < nx) = true := by simp; omega
    have hsub : IntKind.i64.wrap (nx - 1) = (j : Int) := by rw [IntWalk.i64_in _ (by omega)]; omega
    have hji : (j : Int) < xs.length := by omega
    obtain ⟨x, hxj⟩ : ∃ x, xs[j]? = some x := ⟨_, List.getElem?_eq_getElem hjl⟩
    obtain ⟨bX, oX, rfl, hbX, hcX⟩ := hX2 (by omega)
    obtain ⟨cx, hx256⟩ := hcX j x hxj
    have lX : bX < w6.heap.size := by omega
    have HX2 : Hid (holdsE want who s0 = (decide (x % 2 = 1) && (decide (nd ≠ 0) && (decide (s0.at_ = 1) || (decide (s0.at_ = 2) || (decide (s0.at_ = 3) && decide (ll = 0))))))) := by
      have e := HH.out
      rw [hj, Nat.add_sub_cancel, List.getD_eq_getElem?_getD, hxj] at e
      show holdsE want who s0 = _
      rw [e]
      simp
    clear hcX hnxe hnx hn1 hj HH HNX hxj
    by_cases hod : x % 2 = 1
    · have g1 : ((x : Int) % 2 == 1) = true := by simp; omega
      have g1' : decide ((x : Int) % 2 = 1) = true := by simp; omega
      by_cases hn0 : nd = 0
      · have g2 : (nd != 0) = false := by simpa using hn0
        have g2' : decide (nd = 0) = true := by simpa using hn0
        have HO := Lib.hid (And.intro hod hn0)
        clear hod hn0
        go_quiet (fail)
        go_wp2_with fail
        go_ret
        exact FIN.out false _ rfl rfl rfl rfl (by rw [HX2.out, HO.out.2]; simp)
      · have g2 : (nd != 0) = true := by simpa using hn0
        have g2' : decide (nd = 0) = false := by simpa using hn0
        have hat4 : s0.at_ = 0 ∨ s0.at_ = 1 ∨ s0.at_ = 2 ∨ s0.at_ = 3 := by omega
        have HO := Lib.hid (And.intro hod hn0)
        clear hod hn0
        rcases hat4 with ha | ha | ha | ha
        · have e2' : w6.cell? ⟨bS, 2, none⟩ = some (.int .i64 0) := by rw [e2, ← HAZ.out, ha]; rfl
          have HA := Lib.hid ha
          clear e2 ha
          go_quiet (fail)
          go_wp2_with fail
          go_ret
          exact FIN.out false _ rfl rfl rfl rfl (by rw [HX2.out, HA.out]; simp [HO.out.1, HO.out.2])
        · have e2' : w6.cell? ⟨bS, 2, none⟩ = some (.int .i64 1) := by rw [e2, ← HAZ.out, ha]; rfl
          have HA := Lib.hid ha
          clear e2 ha
          go_quiet (fail)
          go_wp2_with fail
          go_ret
          exact FIN.out true _ rfl rfl rfl rfl (by rw [HX2.out, HA.out]; simp [HO.out.1, HO.out.2])
        · have e2' : w6.cell? ⟨bS, 2, none⟩ = some (.int .i64 2) := by rw [e2, ← HAZ.out, ha]; rfl
          have HA := Lib.hid ha
          clear e2 ha
          go_quiet (fail)
          go_wp2_with fail
          go_ret
          exact FIN.out true _ rfl rfl rfl rfl (by rw [HX2.out, HA.out]; simp [HO.out.1, HO.out.2])
        · by_cases hl0 : ll = 0
          · have e2' : w6.cell? ⟨bS, 2, none⟩ = some (.int .i64 3) := by rw [e2, ← HAZ.out, ha]; rfl
            have HA := Lib.hid ha
            clear e2 ha
            have g3 : ((ll : Int) == 0) = true := by simp; omega
            have g3' : decide ((ll : Int) = 0) = true := by simp; omega
            have g3'' : decide (ll = 0) = true := by simp; omega
            have HL := Lib.hid hl0
            clear hl0
            go_quiet (fail)
            go_wp2_with fail
            go_ret
            exact FIN.out true _ rfl rfl rfl rfl (by rw [HX2.out, HA.out]; simp [HO.out.1, HO.out.2, HL.out])
          · have e2' : w6.cell? ⟨bS, 2, none⟩ = some (.int .i64 3) := by rw [e2, ← HAZ.out, ha]; rfl
            have HA := Lib.hid ha
            clear e2 ha
            have g3 : ((ll : Int) == 0) = false := by simp; omega
            have g3' : decide ((ll : Int) = 0) = false := by simp; omega
            have g3'' : decide (ll = 0) = false := by simp; omega
            have HL := Lib.hid hl0
            clear hl0
            go_quiet (fail)
            go_wp2_with fail
            go_ret
            exact FIN.out false _ rfl rfl rfl rfl (by rw [HX2.out, HA.out]; simp [HO.out.1, HO.out.2, HL.out])
    · have g1 : ((x : Int) % 2 == 1) = false := by simp; omega
      have g1' : decide ((x : Int) % 2 = 1) = false := by simp; omega
      have HO := Lib.hid hod
      clear hod
      go_quiet (fail)
      go_wp2_with fail
      go_ret
      exact FIN.out false _ rfl rfl rfl rfl (by rw [HX2.out]; simp [HO.out])
end Go.Proofs.Ytgjdjgainjedhaa
namespace Go.Proofs.Ytgjdjgainjedhaa
open Go.RowKit
set_option linter.unusedVariables false
attribute [local go_sem ↓] Go.wp_at_zero Go.wp_at_succ

theorem own_slInt {w : World} {base n cap : Nat} {G : Option Addr} {zs : List Int} (h : OwnInts w base (.slice G n cap) zs) (hn : zs.length = n) : SlInt w w.heap.size G zs := by
  intro hl
  subst hn
  unfold OwnInts at h
  obtain ⟨g, cap', hA, hA1, hA2⟩ := World.ownsRow.form h hl
  injection hA with hA _ _
  subst hA
  refine ⟨g, 0, rfl, (World.ownsRow.lt h g rfl).2, fun k z hk => ?_⟩
  have hkl := (List.getElem?_eq_some_iff.1 hk).1
  rw [Nat.zero_add, World.ownsRow.cellAt h k (by omega)]
  simp [ints, hk]
theorem one_cell {w : World} {g : Nat} {u : Value} (h : w.cell? ⟨g, 0, none⟩ = some u) : ∀ (j : Nat) (v : Value), #[u][j]? = some v → w.cell? ⟨g, 0 + j, none⟩ = some v := by
  intro j v hj
  cases j with
  | zero => simp at hj; subst hj; exact h
  | succ j => simp at hj
theorem TRep.c0 {w : World} {B gt gs : Nat} {t : TabE} (h : TRep w B gt gs t) : ∃ gm c, w.cell? ⟨gt, 0, none⟩ = some (.slice (some ⟨gm, 0, none⟩) t.m.length c) ∧ SlInt w w.heap.size (some ⟨gm, 0, none⟩) t.m ∧ gt < w.heap.size := by
  obtain ⟨gm, c, cc, k, ho⟩ := h.mem
  exact ⟨gm, c, (k.cell 0).trans rfl, own_slInt ho rfl, k.lt⟩
theorem cell_n (A : Option Addr) (c n : Nat) (zs : List Int) (k : Int) (w : World) (hn : zs.length = n) (h : SlInt w w.heap.size A zs) : Calls Try.prog 12 #[.agg #[.slice A n c], .int .i64 k] w (IntBelow (cellN zs k) w) := by
  subst hn
  exact cell_any A c zs k w h
theorem in_n (A : Option Addr) (c n : Nat) (zs : List Int) (x : Int) (w : World) (hn : zs.length = n) (h : SlInt w w.heap.size A zs) (hm : n ≤ 1000000) : Calls Try.prog 45 #[.slice A n c, .int .i64 x] w (BoolBelow (decide (x ∈ zs)) w) := by
  subst hn
  exact in_any A c zs x w h hm
theorem SlInt.keepb {w w' : World} {A : Option Addr} {l : List Int} (h : SlInt w w.heap.size A l) (hb : Below w.heap.size w w') : SlInt w' w'.heap.size A l := (h.below hb).more hb.size
/-- What is asked of the table, that it be safe. -/
structure SafeIn (l : Ly) (want : List (List Nat)) (n : Nat) (t : TabE) (L : List Int) : Prop where
  len : t.seats.length = n
  lns : t.m.length ≤ 1000
  fr : 0 ≤ l.free ∧ l.free < t.m.length
  nd : ∀ a, 1 ≤ a ∧ a ≤ l.c.nodes → 0 ≤ nodeAt l a 7 ∧ nodeAt l a 7 < t.m.length
  nn : 1 ≤ l.c.nodes ∧ l.c.nodes ≤ 9
  idx : idxOf (freeOf l t.m) = L.headD 0
  ch : Chain (linkOf l t.m) L
  inr : ∀ a ∈ L, 1 ≤ a ∧ a ≤ l.c.nodes
  nod : L.Nodup
  ll : L.length ≤ 1000
  seat : ∀ k s, t.seats[k]? = some s → (s.next ≤ (want.getD k []).length ∧ (s.busy = true → 1 ≤ s.next)) ∧ (want.getD k []).length ≤ 1000 ∧ s.log.length ≤ 1000 ∧ s.at_ ≤ 3 ∧ (holdsE want k s = true → s.node ∉ L)
  cell : cellOf l t.m = 0 ∨ cellOf l t.m ∉ L
  ce : 0 ≤ cellAt l 0 ∧ cellAt l 0 < t.m.length
def SafeRel (w : World) (n : Nat) (v : Value) (wr : World) : Prop := ∃ k : Nat, k ≤ n ∧ v = .int .i64 k ∧ Below w.heap.size w wr
set_option maxRecDepth 1000000 in
set_option maxHeartbeats 8000000 in
theorem safe_any {w : World} {B B0 gt gs n : Nat} {t : TabE} {want : List (List Nat)} {L : List Int} (l : Ly) (tN : Int) (W T' : Option Addr) (c m' d : Nat) (h : TRep w B gt gs t) (hW : SlU8s w B0 W want) (hB : B0 ≤ w.heap.size) (hwn : want.length = n) (hw3 : n ≤ 3) (f : LyFull l) (si : SafeIn l want n t L) :
    Calls Try.prog 22 #[ptr gt, lyV l, .agg (playC tN W n c T' m' d)] w (BoolBelow true w) := by
  have F := Lib.hid f
  have SI := Lib.hid si
  have WN := Lib.hid hwn
  have hba := below_al (below_al (Below.refl w.heap.size w) (.cells (lyC l) 40)) (.cells (playC tN W n c T' m' d) 25)
  have hx := h.top.keep hba
  have kL := (Bk.made w 40 (lyC l)).alloc (.cells (playC tN W n c T' m' d) 25)
  have kP := Bk.new (w.alloc (.cells (lyC l) 40)) (g := w.heap.size + 1) (by simp) 25 (playC tN W n c T' m' d)
  have hW5 : SlU8s ((w.alloc (.cells (lyC l) 40)).alloc (.cells (playC tN W n c T' m' d) 25)) B0 W want := hW.below ⟨rfl, rfl, rfl, hba.size, fun b hb => hba.block b (by omega)⟩
  clear f si h hW hwn
  go_enter Try.func22, Try.ntmps22
  go_upto_region 1 with fail
  have hB5 : B0 ≤ ((w.alloc (.cells (lyC l) 40)).alloc (.cells (playC tN W n c T' m' d) 25)).heap.size := Nat.le_trans hB hba.size
  generalize (w.alloc (.cells (lyC l) 40)).alloc (.cells (playC tN W n c T' m' d) 25) = w5 at *
  obtain ⟨bL, hbL⟩ : ∃ g, w.heap.size = g := ⟨_, rfl⟩
  have HBL := Lib.hid hbL
  rw [hbL] at kL kP ⊢
  clear hbL
  refine wp_region_E (S := fun w' => Below w5.drew.heap.size w5.drew w') (E := fun _ => false) (by kernel_rfl) ?_
  replace hx := hx.drew
  replace kL := kL.drew
  replace kP := kP.drew
  replace hba := hba.drew
  replace hW5 : SlU8s w5.drew B0 W want := hW5
  replace hB5 : B0 ≤ w5.drew.heap.size := hB5
  generalize w5.drew = w6 at *
  obtain ⟨gm, cm, c0, hA, lT⟩ := hx.c0
  obtain ⟨N, hN⟩ : ∃ N, t.m.length = N := ⟨_, rfl⟩
  rw [hN] at c0
  have HN := Lib.hid hN
  have HA := Lib.hid hA
  clear hN hA
  refine wpAnyE_take (i := 0) (oi := _) (v := .agg (lyC l)) rfl (by kernel_rfl) (by kernel_rfl) (by kernel_rfl) (by kernel_rfl) (fun _ _ _ h => h) (Or.inl ⟨by rfl, ?_⟩) (Below.refl _ _) ?_
  · intro w' hSw
    (try simp only [List.getElem_toArray, List.getElem_cons_zero])
    simp only [execOp, Instr.loadAt, Instr.sureAddr, Sem.run_bind, Sem.run_pure]
    rw [show (Act.eval _ (Operand.tmp 4)) = Value.pointer (some ⟨bL, 0, none⟩) from rfl]
    simp only [Sem.run_pure, Result.andThen_ok, run_loadVar_row w' bL 40 40 (lyC l) (0, 0) _ (kL.keep hSw) Try.underlying40 rfl (by kernel_rfl)]
  (try simp only [List.getElem_toArray, List.getElem_cons_zero, Act.put, List.setIfInBounds_toArray, List.set_cons_zero, List.set_cons_succ])
  refine wpAnyE_take (i := 1) (oi := _) (v := .pointer (some ⟨gt, 0, none⟩)) rfl (by kernel_rfl) (by kernel_rfl) (by kernel_rfl) (by kernel_rfl) (fun _ _ _ h => h) (Or.inl ⟨by rfl, ?_⟩) (Below.refl _ _) ?_
  · intro w' hSw
    (try simp only [List.getElem_toArray, List.getElem_cons_succ, List.getElem_cons_zero])
    go_simp
  (try simp only [List.getElem_toArray, List.getElem_cons_succ, List.getElem_cons_zero, Act.put, List.setIfInBounds_toArray, List.set_cons_zero, List.set_cons_succ])
  refine wpAnyE_take (i := 2) (oi := _) (v := .pointer (some ⟨gt, 0, none⟩)) rfl (by kernel_rfl) (by kernel_rfl) (by kernel_rfl) (by kernel_rfl) (fun _ _ _ h => h) (Or.inl ⟨by rfl, ?_⟩) (Below.refl _ _) ?_
  · intro w' hSw
    (try simp only [List.getElem_toArray, List.getElem_cons_succ, List.getElem_cons_zero])
    go_simp
  (try simp only [List.getElem_toArray, List.getElem_cons_succ, List.getElem_cons_zero, Act.put, List.setIfInBounds_toArray, List.set_cons_zero, List.set_cons_succ])
  refine wpAnyE_take (i := 3) (oi := _) (v := .pointer (some ⟨gt, 0, none⟩)) rfl (by kernel_rfl) (by kernel_rfl) (by kernel_rfl) (by kernel_rfl) (fun _ _ _ h => h) (Or.inl ⟨by rfl, ?_⟩) (Below.refl _ _) ?_
  · intro w' hSw
    (try simp only [List.getElem_toArray, List.getElem_cons_succ, List.getElem_cons_zero])
    go_simp
  (try simp only [List.getElem_toArray, List.getElem_cons_succ, List.getElem_cons_zero, Act.put, List.setIfInBounds_toArray, List.set_cons_zero, List.set_cons_succ])
  refine wpAnyE_take (i := 4) (oi := _) (v := .agg #[.slice (some ⟨gm, 0, none⟩) N cm]) rfl (by kernel_rfl) (by kernel_rfl) (by kernel_rfl) (by kernel_rfl) (fun _ _ _ h => h) (Or.inl ⟨by rfl, ?_⟩) (Below.refl _ _) ?_
  · intro w' hSw
    (try simp only [List.getElem_toArray, List.getElem_cons_succ, List.getElem_cons_zero])
    simp only [execOp, Instr.loadAt, Instr.sureAddr, Sem.run_bind, Sem.run_pure]
    rw [show (Act.eval _ (Operand.tmp 13)) = Value.pointer (some ⟨gt, 0, none⟩) from rfl]
    simp only [Sem.run_pure, Result.andThen_ok, run_loadVar_sub w' gt 0 33 #[.slice (some ⟨gm, 0, none⟩) N cm] _ (one_cell (cell_keep hSw c0)) Try.underlying33 rfl (by kernel_rfl)]
  (try simp only [List.getElem_toArray, List.getElem_cons_succ, List.getElem_cons_zero, Act.put, List.setIfInBounds_toArray, List.set_cons_zero, List.set_cons_succ])
  refine wpAnyE_one (i := 5) (o := _) (by kernel_rfl) rfl (fun K hK => ?_)
  (try simp only [List.getElem_toArray, List.getElem_cons_succ, List.getElem_cons_zero])
  go_simp
  (with_reducible refine (list_any l (some ⟨gm, 0, none⟩) cm N t.m L _ F.out SI.out.nn HA.out HN.out (by rw [← HN.out]; exact SI.out.fr) (fun a ha => by rw [← HN.out]; exact SI.out.nd a ha) SI.out.idx SI.out.ch SI.out.inr SI.out.nod SI.out.ll).mono ?_)
  rintro e w7 ⟨AL, cL, rfl, hownL, hb⟩
  obtain ⟨nL, hnL⟩ : ∃ z, L.length = z := ⟨_, rfl⟩
  have hSL : SlInt w7 w7.heap.size AL L := own_slInt hownL rfl
  rw [hnL]
  have HNL := Lib.hid hnL
  have HSL := Lib.hid hSL
  clear hownL hnL hSL
  refine hK.out _ _ (fun _ => hb) ?_
  clear hK K
  (try simp only [List.getElem_toArray, List.getElem_cons_succ, List.getElem_cons_zero, Act.put, List.setIfInBounds_toArray, List.set_cons_zero, List.set_cons_succ])
  refine wpAnyE_take (i := 6) (oi := _) (v := .slice AL nL cL) rfl (by kernel_rfl) (by kernel_rfl) (by kernel_rfl) (by kernel_rfl) (fun _ _ _ h => h) (Or.inl ⟨by rfl, ?_⟩) hb ?_
  · intro w' hSw
    (try simp only [List.getElem_toArray, List.getElem_cons_succ, List.getElem_cons_zero])
    go_simp
  (try simp only [List.getElem_toArray, List.getElem_cons_succ, List.getElem_cons_zero, Act.put, List.setIfInBounds_toArray, List.set_cons_zero, List.set_cons_succ])
  refine wpAnyE_done (by kernel_rfl) ?_ _
  replace hx := hx.keep hb
  replace kL := kL.keep hb
  replace kP := kP.keep hb
  replace hba := below_tr hba hb
  have hW7 : SlU8s w7 B0 W want := hW5.below ⟨hb.os, hb.tape, hb.output, by have := hb.size; omega, fun b q => hb.block b (by omega)⟩
  replace hB5 : B0 ≤ w7.heap.size := Nat.le_trans hB5 hb.size
  clear hb hW5 c0 lT
  go_upto_region 3 with fail
  go_loopw [8] (fun v8 wr => SafeRel w7 n v8 wr) (fun v8 _ => n - (intOf v8).toNat)
  case atStart => exact ⟨0, Nat.zero_le _, rfl, Below.refl _ _⟩
  case round =>
    obtain ⟨k, hk, rfl, hbr⟩ := hrel
    have hxr := hx.keep hbr
    have kLr := kL.keep hbr
    have kPr := kP.keep hbr
    have HSr := Lib.hid (HSL.out.keepb hbr)
    have hWr : SlU8s wr B0 W want := hW7.below ⟨hbr.os, hbr.tape, hbr.output, by have := hbr.size; omega, fun b q => hbr.block b (by omega)⟩
    have hBr : B0 ≤ wr.heap.size := Nat.le_trans hB5 hbr.size
    have hbz := below_tr hba hbr
    obtain ⟨cc, c1, lT⟩ := hxr.c1
    rw [SI.out.len] at c1
    by_cases hlt : k < n
    · have i1 : decide ((k : Int) < n) = true := by simp; omega
      have i2 : decide (k < n) = true := by simp; omega
      obtain ⟨s, hs⟩ : ∃ s, t.seats[k]? = some s := ⟨_, List.getElem?_eq_getElem (by rw [SI.out.len]; exact hlt)⟩
      have hcall := holds_any tN W T' c m' d hxr hs hWr hBr WN.out SI.out.len hw3 (SI.out.seat k s hs).1 (SI.out.seat k s hs).2.1 (SI.out.seat k s hs).2.2.1 (SI.out.seat k s hs).2.2.2.1
      have hno := (SI.out.seat k s hs).2.2.2.2
      obtain ⟨hz, hhz⟩ : ∃ b, holdsE want k s = b := ⟨_, rfl⟩
      rw [hhz] at hcall hno
      have HNO := Lib.hid hno
      have HC := Lib.hid hcall
      have HS := Lib.hid hs
      clear hcall hno hhz hs
      go_wp2_with (refine wpList_load_row rfl 25 (.tmp 5) rfl (bL + 1) rfl 25 (playC tN W n c T' m' d) (0, 0) _ kPr Try.underlying25 rfl (by kernel_rfl) ?_)
      (with_reducible refine HC.out.mono ?_)
      rintro e w8 ⟨rfl, hb8⟩
      have hx8 := hxr.keep hb8
      obtain ⟨cc8, c18, lT8⟩ := hx8.c1
      rw [SI.out.len] at c18
      obtain ⟨lv, gv, sv⟩ := hx8.seat (who := k) (s := s) HS.out
      have o8 := sv.cells 8 _ rfl
      have l8 := sv.lt
      have hki : (k : Int) < n := by omega
      have hb9 := below_tr hbr hb8
      clear sv c1 lT
      cases hz with
      | false =>
        go_wp2_with fail
        go_roundw
        case rel => exact ⟨k + 1, by omega, by go_num, hb9⟩
        case measure => simp [intOf]; omega
      | true =>
        have hd : decide (s.node ∈ L) = false := decide_eq_false (HNO.out rfl)
        have HIN := Lib.hid (in_n AL cL nL L s.node w8 HNL.out (HSr.out.keepb hb8) (by have := SI.out.ll; rw [HNL.out] at this; omega))
        go_wp2_with fail
        (with_reducible refine HIN.out.mono ?_)
        rintro e w9 ⟨rfl, hb10⟩
        rw [hd]
        go_wp2_with fail
        go_roundw
        case rel => exact ⟨k + 1, by omega, by go_num, below_tr hb9 hb10⟩
        case measure => simp [intOf]; omega
    · have i1 : decide ((k : Int) < n) = false := by simp; omega
      have i2 : decide (k < n) = false := by simp; omega
      obtain rfl : k = n := by omega
      go_upto_region 7 with fail
      clear c1 lT i1 i2 hlt hk
      refine wp_region_E (S := fun w' => Below wr.drew.heap.size wr.drew w') (E := fun _ => false) (by kernel_rfl) ?_
      replace hxr := hxr.drew
      replace kLr := kLr.drew
      replace hbz := hbz.drew
      have HS9 : Hid (SlInt wr.drew wr.drew.heap.size AL L) := HSr
      clear HSr hx kL kP kPr hbr hWr hW7
      generalize wr.drew = w8 at *
      obtain ⟨gm, cm, c0, hA, lT⟩ := hxr.c0
      rw [HN.out] at c0
      have HA2 := Lib.hid hA
      clear hA HA
      refine wpAnyE_take (i := 0) (oi := _) (v := .pointer (some ⟨gt, 0, none⟩)) rfl (by kernel_rfl) (by kernel_rfl) (by kernel_rfl) (by kernel_rfl) (fun _ _ _ h => h) (Or.inl ⟨by rfl, ?_⟩) (Below.refl _ _) ?_
      · intro w' hSw
        (try simp only [List.getElem_toArray, List.getElem_cons_zero])
        go_simp
      (try simp only [List.getElem_toArray, List.getElem_cons_zero, Act.put, List.setIfInBounds_toArray, List.set_cons_zero, List.set_cons_succ])
      refine wpAnyE_take (i := 1) (oi := _) (v := .pointer (some ⟨gt, 0, none⟩)) rfl (by kernel_rfl) (by kernel_rfl) (by kernel_rfl) (by kernel_rfl) (fun _ _ _ h => h) (Or.inl ⟨by rfl, ?_⟩) (Below.refl _ _) ?_
      · intro w' hSw
        (try simp only [List.getElem_toArray, List.getElem_cons_succ, List.getElem_cons_zero])
        go_simp
      (try simp only [List.getElem_toArray, List.getElem_cons_succ, List.getElem_cons_zero, Act.put, List.setIfInBounds_toArray, List.set_cons_zero, List.set_cons_succ])
      refine wpAnyE_take (i := 2) (oi := _) (v := .pointer (some ⟨gt, 0, none⟩)) rfl (by kernel_rfl) (by kernel_rfl) (by kernel_rfl) (by kernel_rfl) (fun _ _ _ h => h) (Or.inl ⟨by rfl, ?_⟩) (Below.refl _ _) ?_
      · intro w' hSw
        (try simp only [List.getElem_toArray, List.getElem_cons_succ, List.getElem_cons_zero])
        go_simp
      (try simp only [List.getElem_toArray, List.getElem_cons_succ, List.getElem_cons_zero, Act.put, List.setIfInBounds_toArray, List.set_cons_zero, List.set_cons_succ])
      refine wpAnyE_take (i := 3) (oi := _) (v := .agg #[.slice (some ⟨gm, 0, none⟩) N cm]) rfl (by kernel_rfl) (by kernel_rfl) (by kernel_rfl) (by kernel_rfl) (fun _ _ _ h => h) (Or.inl ⟨by rfl, ?_⟩) (Below.refl _ _) ?_
      · intro w' hSw
        (try simp only [List.getElem_toArray, List.getElem_cons_succ, List.getElem_cons_zero])
        simp only [execOp, Instr.loadAt, Instr.sureAddr, Sem.run_bind, Sem.run_pure]
        rw [show (Act.eval _ (Operand.tmp 43)) = Value.pointer (some ⟨gt, 0, none⟩) from rfl]
        simp only [Sem.run_pure, Result.andThen_ok, run_loadVar_sub w' gt 0 33 #[.slice (some ⟨gm, 0, none⟩) N cm] _ (one_cell (cell_keep hSw c0)) Try.underlying33 rfl (by kernel_rfl)]
      (try simp only [List.getElem_toArray, List.getElem_cons_succ, List.getElem_cons_zero, Act.put, List.setIfInBounds_toArray, List.set_cons_zero, List.set_cons_succ])
      refine wpAnyE_take (i := 4) (oi := _) (v := .agg (lyC l)) rfl (by kernel_rfl) (by kernel_rfl) (by kernel_rfl) (by kernel_rfl) (fun _ _ _ h => h) (Or.inl ⟨by rfl, ?_⟩) (Below.refl _ _) ?_
      · intro w' hSw
        (try simp only [List.getElem_toArray, List.getElem_cons_succ, List.getElem_cons_zero])
        simp only [execOp, Instr.loadAt, Instr.sureAddr, Sem.run_bind, Sem.run_pure]
        rw [show (Act.eval _ (Operand.tmp 4)) = Value.pointer (some ⟨bL, 0, none⟩) from rfl]
        simp only [Sem.run_pure, Result.andThen_ok, run_loadVar_row w' bL 40 40 (lyC l) (0, 0) _ (kLr.keep hSw) Try.underlying40 rfl (by kernel_rfl)]
      (try simp only [List.getElem_toArray, List.getElem_cons_succ, List.getElem_cons_zero, Act.put, List.setIfInBounds_toArray, List.set_cons_zero, List.set_cons_succ])
      refine wpAnyE_one (i := 5) (o := _) (by kernel_rfl) rfl (fun K hK => ?_)
      (try simp only [List.getElem_toArray, List.getElem_cons_succ, List.getElem_cons_zero])
      go_simp
      (with_reducible refine (rcell_any l 0 _ F.out).mono ?_)
      rintro e wa ⟨rfl, hb1⟩
      obtain ⟨kc, hkc⟩ : ∃ z, cellAt l 0 = z := ⟨_, rfl⟩
      rw [hkc]
      refine hK.out _ _ (fun _ => hb1) ?_
      clear hK K
      (try simp only [List.getElem_toArray, List.getElem_cons_succ, List.getElem_cons_zero, Act.put, List.setIfInBounds_toArray, List.set_cons_zero, List.set_cons_succ])
      refine wpAnyE_one (i := 6) (o := _) (by kernel_rfl) rfl (fun K hK => ?_)
      (try simp only [List.getElem_toArray, List.getElem_cons_succ, List.getElem_cons_zero])
      go_simp
      (with_reducible refine (cell_n (some ⟨gm, 0, none⟩) cm N t.m kc _ HN.out (HA2.out.keepb hb1)).mono ?_)
      rintro e wb ⟨rfl, hb2⟩
      have hb3 := below_tr hb1 hb2
      have hcell : cellN t.m kc = cellOf l t.m := by
        have := SI.out.ce
        rw [hkc] at this
        unfold cellN cellOf
        rw [if_neg (by omega), hkc]
      rw [hcell]
      clear hcell
      refine hK.out _ _ (fun _ => hb3) ?_
      clear hK K
      (try simp only [List.getElem_toArray, List.getElem_cons_succ, List.getElem_cons_zero, Act.put, List.setIfInBounds_toArray, List.set_cons_zero, List.set_cons_succ])
      obtain ⟨ic, hic⟩ : ∃ z, cellOf l t.m = z := ⟨_, rfl⟩
      rw [hic]
      have HIC : Hid (ic = 0 ∨ ic ∉ L) := by have := SI.out.cell; rw [hic] at this; exact this
      clear hic hkc
      refine wpAnyE_take (i := 7) (oi := _) (v := .int .i64 ic) rfl (by kernel_rfl) (by kernel_rfl) (by kernel_rfl) (by kernel_rfl) (fun _ _ _ h => h) (Or.inl ⟨by rfl, ?_⟩) hb3 ?_
      · intro w' hSw
        (try simp only [List.getElem_toArray, List.getElem_cons_succ, List.getElem_cons_zero])
        go_simp
      (try simp only [List.getElem_toArray, List.getElem_cons_succ, List.getElem_cons_zero, Act.put, List.setIfInBounds_toArray, List.set_cons_zero, List.set_cons_succ])
      refine wpAnyE_done (by kernel_rfl) ?_ _
      have hbe := below_tr hbz hb3
      have HSb := Lib.hid (HS9.out.keepb hb3)
      clear hb1 hb2 hb3 hbz hxr kLr c0 lT hB5
      by_cases hi0 : ic = 0
      · have g1 : (ic == 0) = true := by simpa using hi0
        have g1' : decide (ic = 0) = true := by simpa using hi0
        clear hi0
        go_wp2_with fail
        go_ret
        exact ⟨rfl, hbe⟩
      · have g1 : (ic == 0) = false := by simpa using hi0
        have g1' : decide (ic = 0) = false := by simpa using hi0
        have hd : decide (ic ∈ L) = false := decide_eq_false (HIC.out.resolve_left hi0)
        have HIN := Lib.hid (in_n AL cL nL L ic wb HNL.out HSb.out (by have := SI.out.ll; rw [HNL.out] at this; omega))
        clear hi0
        go_wp2_with fail
        (with_reducible refine HIN.out.mono ?_)
        rintro e w9 ⟨rfl, hb10⟩
        rw [hd]
        go_wp2_with fail
        go_ret
        exact ⟨rfl, below_tr hbe hb10⟩
end Go.Proofs.Ytgjdjgainjedhaa
