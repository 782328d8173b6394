/- arena.List. -/
import Derived.Test.YtbcgjolcfagboaaArU
import Derived.Test.YtbcgjolcfagboaaLayN
import Derived.Test.YtbcgjolcfagboaaCell
namespace Go.Proofs.Ytbcgjolcfagboaa
open Go.RowKit
set_option linter.unusedVariables false
attribute [local go_sem ↓] Go.wp_at_zero Go.wp_at_succ

set_option maxHeartbeats 2000000 in
theorem at_any (gm : Nat) (A : Option Addr) (c : Nat) (zs : List Int) (n : Nat) (k : Int) (w : World) (kM : Bk w gm 53 #[.slice A n c]) (hn : zs.length = n) (h : SlInt w w.heap.size A zs) (h0 : 0 ≤ k) (h1 : k < n) :
    Calls Try.prog 20 #[.int .i64 k, ptr gm] w (IntBelow (zs.getD k.toNat 0) w) := by
  obtain ⟨j, rfl⟩ : ∃ j : Nat, k = j := ⟨k.toNat, by omega⟩
  have g0 : decide ((j : Int) < 0) = false := by simp
  have g1 : decide ((n : Int) ≤ j) = false := by simp; omega
  obtain ⟨x, hx⟩ : ∃ x, zs[j]? = some x := ⟨_, List.getElem?_eq_getElem (by omega)⟩
  have e : zs.getD (j : Int).toNat 0 = x := by simp [hx]
  rw [e]
  obtain ⟨b, o, hA, hbb, hc⟩ := h (by omega)
  have q := hc j x hx
  subst hA
  have i1 : (j : Int) < n := by omega
  have q0 := kM.cell 0
  simp at q0
  clear e hc h hx hn kM
  go_enter Try.func20, Try.ntmps20
  go_wp2
  go_ret
  exact ⟨rfl, Below.refl _ _⟩
def toldOf (N : Nat) (L : List Int) : Array Value := ((List.range (N + 1)).map fun (a : Nat) => Value.bool (decide ((a : Int) ∈ L))).toArray
theorem Chain.drop {f : Int → Int} : ∀ {L : List Int}, Chain f L → ∀ k, Chain f (L.drop k)
  | _, h, 0 => h
  | [], _, _ + 1 => trivial
  | _ :: _, h, k + 1 => Chain.drop h.2 k
def lenOf : Value → Nat
  | .slice _ n _ => n
  | _ => 0
theorem told_set (N : Nat) (L : List Int) (a : Nat) (h : a ≤ N) : (toldOf N L).setIfInBounds a (.bool true) = toldOf N (L ++ [(a : Int)]) := by
  apply Array.ext
  · simp [toldOf]
  · intro i h1 h2
    simp [toldOf]
    by_cases e : a = i
    · subst e; simp
    · have : ¬ ((i : Int) = a) := by omega
      simp [e, this]
theorem row_news1 {w : World} (v : Value) : ∀ (j : Nat) (u : Value), [v][j]? = some u → (w.alloc (.cells #[v] 3)).cell? ((⟨w.heap.size, 0, none⟩ : Addr).add j) = some u := by
  intro j u hu
  rw [Go.WideShapes.add_plain, Nat.zero_add, (Bk.made w 3 #[v]).cell j]
  simpa using hu
def LsRel (w : World) (b0 bM gB N : Nat) (l : Ly) (mc : Array Value) (L : List Int) (v7 v8 : Value) (wr : World) : Prop :=
  ∃ k : Nat, k ≤ L.length ∧ v8 = .int .i64 ((L.drop k).headD 0) ∧ Below w.heap.size w wr ∧ Bk wr b0 31 (lyC l) ∧ Bk wr bM 53 mc ∧ Bk wr gB 4 (toldOf N (L.take k)) ∧ OwnInts wr w.heap.size v7 (L.take k)
theorem bool_info : (Try.prog.info? 4).map (fun i => (i.zero, i.size, i.bytes)) = some (some (.bool false), 1, 1) := by kernel_rfl
theorem run_make_bools (w : World) (N : Nat) (h : N ≤ 1000000) : (Instr.makeSlice 37 (.int .i64 N) (.int .i64 N)).run Try.prog w = .ok (.slice (some ⟨w.heap.size, 0, none⟩) N N) (w.alloc (.cells (madeCells #[.bool false] (N * 1)) 4)) := run_make_row Try.underlying37 bool_info w N h (by omega)
theorem told_nil (N : Nat) : madeCells #[Value.bool false] ((N + 1) * 1) = toldOf N [] := by
  apply Array.ext
  · simp [toldOf, madeCells]
  · intro i h1 h2
    simp [toldOf, madeCells, Nat.mod_one]
set_option maxRecDepth 100000 in
set_option maxHeartbeats 4000000 in
theorem list_any (l : Ly) (A : Option Addr) (c n : Nat) (zs : List Int) (L : List Int) (w : World) (f : LyFull l) (w0 : 1 ≤ l.c.nodes ∧ l.c.nodes ≤ 6) (h : SlInt w w.heap.size A zs) (hn : zs.length = n)
    (hfr : 0 ≤ l.free ∧ l.free < n) (hnd : ∀ a, 1 ≤ a ∧ a ≤ l.c.nodes → 0 ≤ nodeAt l a 7 ∧ nodeAt l a 7 < n) (hidx : idxOf (freeOf l zs) = L.headD 0) (hch : Chain (linkOf l zs) L) (hin : ∀ a ∈ L, 1 ≤ a ∧ a ≤ l.c.nodes) (hnod : L.Nodup) (hLl : L.length ≤ 1000) :
    Calls Try.prog 11 #[lyV l, .agg #[.slice A n c]] w fun e w' => ∃ B d, e = .returned (.slice B L.length d) ∧ OwnInts w' w.heap.size (.slice B L.length d) L ∧ Below w.heap.size w w' := by
  have k0 := (Bk.made w 31 (lyC l)).alloc (.cells #[.slice A n c] 53)
  have kM := Bk.new (w.alloc (.cells (lyC l) 31)) (g := w.heap.size + 1) (by simp) 53 #[.slice A n c]
  have hbl := below_al (below_al (Below.refl w.heap.size w) (.cells (lyC l) 31)) (.cells #[.slice A n c] 53)
  have F := Lib.hid f
  have HS := Lib.hid (And.intro h hn)
  have HP := Lib.hid (And.intro hnd (And.intro hidx (And.intro hch (And.intro hin hnod))))
  have hmax : ∀ (w : World) (ts : Array TypeId) (t : TypeId), (Builtin.max_ ts t #[.int .i64 l.c.nodes, .int .i64 0]).run Try.prog w = .ok (.int .i64 l.c.nodes) w := fun w ts t => by
    rw [run_max_int2]
    split <;> first | rfl | (congr 2; omega)
  have HW0 := Lib.hid w0
  clear h hn hnd hidx hch hin hnod f w0
  go_enter Try.func11, Try.ntmps11
  go_upto_region 2 with fail
  generalize (w.alloc (.cells (lyC l) 31)).alloc (.cells #[.slice A n c] 53) = w1 at *
  obtain ⟨N, hN⟩ : ∃ N : Nat, l.c.nodes = N := ⟨l.c.nodes.toNat, by have := HW0.out; omega⟩
  have hN6 : 1 ≤ N ∧ N ≤ 6 := by have := HW0.out; omega
  have q1 := k0.cell 1
  have q12 := k0.cell 12
  simp at q1 q12
  rw [hN] at q1 hmax
  have z0 := k0.lt
  have zM := kM.lt
  have HN := Lib.hid hN
  clear hN
  go_wp2_with (refine wpList_make_row rfl _ _ rfl (N + 1) _ rfl rfl (run_make_bools _ (N + 1) (by omega)) ?_)
  have kB := Bk.made w1 4 (madeCells #[.bool false] (N + 1))
  have e0 := told_nil N
  rw [Nat.mul_one] at e0
  rw [e0] at kB
  try rw [e0]
  clear e0
  replace k0 := k0.alloc (.cells (toldOf N []) 4)
  replace kM := kM.alloc (.cells (toldOf N []) 4)
  replace hbl := below_al hbl (.cells (toldOf N []) 4)
  clear q1 q12 hmax zM
  generalize w1.alloc (.cells (toldOf N []) 4) = w2 at *
  have hgB : w.heap.size ≤ w1.heap.size := by omega
  generalize w1.heap.size = gB at *
  have HGB : Hid (w.heap.size ≤ gB) := Lib.hid hgB
  clear hgB
  (with_reducible refine (at_any (w.heap.size + 1) A c zs n l.free _ kM HS.out.2 (by have := HS.out.1.below hbl; exact this.more hbl.size) hfr.1 hfr.2).mono ?_)
  rintro e w3 ⟨rfl, hb⟩
  rw [show zs.getD l.free.toNat 0 = freeOf l zs from rfl]
  replace k0 := k0.keep hb
  replace kM := kM.keep hb
  replace kB := kB.keep hb
  replace hbl := below_tr hbl hb
  clear hb
  obtain ⟨fw, hfw⟩ : ∃ x, freeOf l zs = x := ⟨_, rfl⟩
  rw [hfw]
  go_wp2_with fail
  (with_reducible refine (of_any fw _).mono ?_)
  rintro e w4 ⟨rfl, hb⟩
  replace k0 := k0.keep hb
  replace kM := kM.keep hb
  replace kB := kB.keep hb
  replace hbl := below_tr hbl hb
  clear hb
  have hx : fw % 65536 = L.headD 0 := by rw [← hfw]; exact HP.out.2.1
  rw [hx]
  clear hx hfw
  generalize (fw / 65536 % 2 == 1) = z1
  generalize fw / 131072 % 268435456 = z2
  obtain ⟨hd, hhd⟩ : ∃ x, L.headD 0 = x := ⟨_, rfl⟩
  rw [hhd]
  have HHD := Lib.hid hhd
  clear hhd
  have hf0 : ∀ w : World, (Instr.field 63 (.agg #[.int .i64 hd, .bool z1, .int .i64 z2]) 0).run Try.prog w = .ok (.int .i64 hd) w := fun w => by kernel_rfl
  go_wp2_with fail
  clear hf0
  go_loopw [7, 8] (fun v7 v8 wr => LsRel w w.heap.size (w.heap.size + 1) gB N l #[.slice A n c] L v7 v8 wr) (fun v7 _ _ => L.length - lenOf v7)
  case atStart => exact ⟨0, Nat.zero_le _, by rw [← HHD.out]; rfl, hbl, k0, kM, kB, World.ownsRow_nil _ _ _ _⟩
  case round =>
    obtain ⟨k, hk, rfl, hb, k1, kM1, kB1, hown⟩ := hrel
    clear k0 kM kB hbl
    obtain ⟨G, cg, rfl⟩ := own_slice hown
    have q1 := k1.cell 1
    simp at q1
    rw [HN.out] at q1
    by_cases hlt : k < L.length
    · obtain ⟨a, ha⟩ : ∃ a, L[k]? = some a := ⟨_, List.getElem?_eq_getElem hlt⟩
      obtain ⟨hnd, hidx, hch, hin, hnod⟩ := HP.out
      have hd1 : L.drop k = a :: L.drop (k + 1) := drop_at ha
      have har := hin a (List.mem_of_getElem? ha)
      have hlink : linkOf l zs a = (L.drop (k + 1)).headD 0 := by
        have : Chain (linkOf l zs) (L.drop k) := hch.drop k
        rw [hd1] at this
        exact this.1
      have hnin : ¬ a ∈ L.take k := by
        intro hm
        obtain ⟨j, hj⟩ := List.getElem?_of_mem hm
        have hjl := (List.getElem?_eq_some_iff.1 hj).1
        rw [List.length_take] at hjl
        rw [List.getElem?_take_of_lt (by omega)] at hj
        have := (List.getElem?_inj (by omega) hnod).1 (hj.trans ha.symm)
        omega
      obtain ⟨x, rfl⟩ : ∃ x : Nat, a = x := ⟨a.toNat, by omega⟩
      have hxN : 1 ≤ x ∧ x ≤ N := by have := HN.out; omega
      have hhead : (L.drop k).headD 0 = x := by rw [hd1]; rfl
      have hnode := hnd x har
      have htk : L.take (k + 1) = L.take k ++ [(x : Int)] := by rw [List.take_add_one, ha]; rfl
      have q6 : wr.cell? ⟨gB, x, none⟩ = some (.bool false) := by
        rw [kB1.cell x]
        have : x < N + 1 := by omega
        simp [toldOf, hnin, this]
      have f6 := kB1.free x
      have l6 := kB1.lt
      rw [hhead]
      have kB2 := kB1.stored x (.bool true)
      rw [told_set N (L.take k) x hxN.2, ← htk] at kB2
      have ne1 := bk_ne k1 kB1 (by decide)
      have ne2 := bk_ne kM1 kB1 (by decide)
      have k2 := k1.other (p := ⟨gB, x, none⟩) ne1 (.bool true)
      have kM2 := kM1.other (p := ⟨gB, x, none⟩) ne2 (.bool true)
      have hown2 : OwnInts (wr.setCell ⟨gB, x, none⟩ (.bool true)) w.heap.size (.slice G (L.take k).length cg) (L.take k) := own_keptT hown (keptT_set kB1 x (.bool true)) (by decide)
      have hb2 : Below w.heap.size w (wr.setCell ⟨gB, x, none⟩ (.bool true)) := below_set hb HGB.out _
      have hlk : (L.take k).length = k := by rw [List.length_take]; omega
      unfold OwnInts at hown2
      rw [hlk] at hown2 ⊢
      obtain ⟨nx, hnx⟩ : ∃ c, nodeAt l x 7 = c := ⟨_, rfl⟩
      rw [hnx] at hnode
      have HNX := Lib.hid hnx
      have HL2 := Lib.hid (And.intro ha (And.intro hlink (And.intro htk hlk)))
      have g1 : decide ((1 : Int) ≤ x) = true := by simp; omega
      have g2 : decide ((x : Int) ≤ N) = true := by simp; omega
      have g3 : decide ((x : Int) < N + 1) = true := by simp; omega
      have g4 : (x : Int) < N + 1 := by omega
      clear hidx hch hin hnod hnd hd1 har hlink hnin hhead htk hown hk hnx ha hlk kB1
      go_upto_region 7 with fail
      clear q6 q1 f6 l6 k1 kM1 hb
      generalize wr.setCell ⟨gB, x, none⟩ (.bool true) = w5 at *
      obtain ⟨i0, hi0, hz0, hz1, hz2⟩ := info_parts int_info
      have ho5 := World.ownsRow.alloc hown2 (.cells #[.int .i64 x] 3)
      have hb5 := below_al hb2 (.cells #[.int .i64 x] 3)
      have hba := below_al (Below.refl w5.heap.size w5) (.cells #[.int .i64 x] 3)
      have HO := Lib.hid hown2
      clear hown2
      go_upto_region 8 with (at_builtin; go_must (refine wpList_append_own_at _ rfl (.tmp 41) (.tmp 43) _ rfl w.heap.size 3 i0 _ 1 8 Try.underlying50 hi0 hz0 hz1 hz2 rfl (by omega) (.slice G k cg) k (ints (L.take k)) rfl ho5 ⟨w5.heap.size, 0, none⟩ 1 1 [.int .i64 x] rfl rfl (row_news1 _) (by simp [Value.oneCell']) (by simp only [maxLen]; omega) (by omega) (by simp; have := hb2.size; omega) ?_; intro v9 w6 hrow4 hgrow4 _ _))
      have hk5 := keptT_grown ho5 hgrow4
      have k6 := (k2.keep hba).keptT hk5 (by decide)
      have kM6 := (kM2.keep hba).keptT hk5 (by decide)
      have kB6 := (kB2.keep hba).keptT hk5 (by decide)
      have hb6 := below_grow hb5 ho5 hgrow4 hb5.size (Nat.le_refl _)
      have HR4 := Lib.hid hrow4
      clear hrow4 hk5 hgrow4 ho5 hb5 hba k2 kM2 kB2 hb2 HO
      go_wp2_with (refine wpList_load_row rfl 31 (.tmp 2) rfl w.heap.size rfl 31 (lyC l) (0, 0) _ k6 Try.underlying31 rfl (by kernel_rfl) ?_)
      (with_reducible refine (node_any l x 7 _ F.out (by omega)).mono ?_)
      rintro e w7 ⟨rfl, hb⟩
      rw [HNX.out]
      have k7 := k6.keep hb
      have kM7 := kM6.keep hb
      have kB7 := kB6.keep hb
      have hb7 := below_tr hb6 hb
      have HR7 := Lib.hid (own_keepb' HR4.out hb)
      clear k6 kM6 kB6 hb6 hb HR4
      go_wp2_with fail
      (with_reducible refine (at_any (w.heap.size + 1) A c zs n nx _ kM7 HS.out.2 (by have := HS.out.1.below hb7; exact this.more hb7.size) hnode.1 hnode.2).mono ?_)
      rintro e w8 ⟨rfl, hb⟩
      have k8 := k7.keep hb
      have kM8 := kM7.keep hb
      have kB8 := kB7.keep hb
      have hb8 := below_tr hb7 hb
      have HR8 := Lib.hid (own_keepb' HR7.out hb)
      clear k7 kM7 kB7 hb7 hb HR7
      have hv : zs.getD nx.toNat 0 = (L.drop (k + 1)).headD 0 := by rw [← HL2.out.2.1, ← HNX.out]; rfl
      rw [hv]
      clear hv
      obtain ⟨nn, hnn⟩ : ∃ y, (L.drop (k + 1)).headD 0 = y := ⟨_, rfl⟩
      rw [hnn]
      have HNN := Lib.hid hnn
      clear hnn
      go_wp2_with fail
      obtain ⟨G9, c9, rfl⟩ := own_slice HR8.out
      refine ⟨⟨k + 1, hlt, by rw [HNN.out], hb8, k8, kM8, kB8, ?_⟩, by simp only [lenOf]; omega⟩
      have h := HR8.out
      unfold OwnInts
      rw [HL2.out.2.2.1, List.length_append, HL2.out.2.2.2]
      simpa [ints] using h
    · have hkL : k = L.length := by omega
      subst hkL
      have e0 : (L.drop L.length).headD 0 = 0 := by simp
      rw [e0, List.take_length]
      rw [List.take_length] at hown kB1
      have HO := Lib.hid hown
      clear e0 hown kB1 hk hlt
      go_wp2
      go_ret
      exact ⟨G, cg, rfl, HO.out, hb⟩
end Go.Proofs.Ytbcgjolcfagboaa
