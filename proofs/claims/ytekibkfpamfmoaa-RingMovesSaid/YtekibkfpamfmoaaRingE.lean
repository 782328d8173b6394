/- layout.Deque at a seat of the layout, and ring.Row of a memory that holds a deque. -/
import Derived.Test.YtekibkfpamfmoaaRingC
namespace Go.Proofs.Ytekibkfpamfmoaa
open Go.RowKit
attribute [local go_sem ↓] Go.wp_at_zero Go.wp_at_succ

set_option maxRecDepth 100000 in
set_option maxHeartbeats 2000000 in
theorem deque_in (l : Ly) (s z : Int) (i d : Nat) (w : World) (hzi : z = i) (hs0 : 0 ≤ s) (hs1 : s < l.c.seats) (hs2 : l.c.seats ≤ 8) (hi : i ≤ 2) (hd0 : 0 ≤ l.deque) (hd1 : l.deque ≤ 1000000) (hd : l.deque + s * 3 = d) :
    Calls Try.prog 18 #[lyV l, .int .i64 s, .int .i64 z] w (IntBelow ((d + i : Nat) : Int) w) := by
  subst hzi
  have e : ((d + i : Nat) : Int) = l.deque + s * 3 + i := by omega
  rw [e]
  clear e
  go_enter Try.func18, Try.ntmps18
  go_wp2_with fail
  (with_reducible refine (within_in l.deque l.c.seats 3 s i (s * 3) _ rfl (by omega) (by omega) (by omega) (by omega) (by omega) (by omega) (by omega) (by omega) (by omega)).mono ?_)
  rintro e w1 ⟨rfl, rfl⟩
  generalize l.deque + s * 3 + (i : Int) = v at *
  go_wp2
  go_ret
  exact ⟨rfl, below_al (Below.refl _ _) _⟩

theorem int_info : (Try.prog.info? 3).map (fun i => (i.zero, i.size, i.bytes)) = some (some (.int .i64 0), 1, 8) := by kernel_rfl
/-- A memory's cells as a block. -/
abbrev memC (mem : List Int) : Array Value := (mem.map (Value.int .i64)).toArray
theorem memC_get {mem : List Int} {k : Nat} {x : Int} (h : mem[k]? = some x) : (memC mem)[k]? = some (.int .i64 x) := by simp [h]
theorem memC_set (mem : List Int) (k : Nat) (x : Int) : (memC mem).setIfInBounds k (.int .i64 x) = memC (mem.set k x) := by simp [List.map_set]
def arr3 (a b c : Int) (k : Nat) : Array Value := #[.int .i64 (if 0 < k then a else 0), .int .i64 (if 1 < k then b else 0), .int .i64 (if 2 < k then c else 0)]
def DqRel (w : World) (l : Ly) (a b c : Int) (gm N : Nat) (i : Value) (wr : World) : Prop :=
  ∃ k : Nat, k ≤ 3 ∧ i = .int .i64 k ∧ Below w.heap.size w wr ∧ Bk wr w.heap.size 26 (lyC l) ∧ Bk wr (w.heap.size + 1) 45 #[.slice (some ⟨gm, 0, none⟩) N N] ∧ Bk wr (w.heap.size + 2) 58 (arr3 a b c k)
def RwRel (w4 : World) (row : List Int) (v i : Value) (wr : World) : Prop :=
  ∃ k : Nat, k ≤ row.length ∧ i = .int .i64 k ∧ Below w4.heap.size w4 wr ∧ wr.ownsRow w4.heap.size 3 1 v k ((row.take k).map (Value.int .i64))
def RowPost (row : List Int) (w : World) (e : Ending) (w' : World) : Prop := ∃ A c, e = .returned (.slice A row.length c) ∧ w'.ownsRow w.heap.size 3 1 (.slice A row.length c) row.length (row.map (Value.int .i64)) ∧ Below w.heap.size w w'
theorem one_news (w : World) (x : Int) : ∀ (j : Nat) (u : Value), [Value.int .i64 x][j]? = some u → (w.alloc (.cells #[.int .i64 x] 3)).cell? ((⟨w.heap.size, 0, none⟩ : Addr).add j) = some u := by
  intro j u hu
  rw [Go.WideShapes.add_plain, Nat.zero_add, (Bk.made w 3 #[.int .i64 x]).cell j]
  simpa using hu
theorem one_one (x : Int) : ∀ u ∈ [Value.int .i64 x], u.oneCell' = true := by
  intro u hu
  simp at hu
  subst hu
  rfl

set_option maxRecDepth 100000 in
set_option maxHeartbeats 4000000 in
theorem row_any (l : Ly) (s r t : Int) (d N gm : Nat) (P : Nat → Nat) (mem row : List Int) (w : World) (f : LyFit l) (hs0 : 0 ≤ s) (hs1 : s < l.c.seats) (hd0 : 0 ≤ l.deque) (hd1 : l.deque ≤ 1000000) (hd : l.deque + s * 3 = d)
    (km : Bk w gm 3 (memC mem)) (hN : mem.length = N) (hN1 : N ≤ 1000000) (hdN : d + 2 < N)
    (v0 : mem[d]? = some t) (v1 : mem[d + 1]? = some (t + row.length)) (v2 : mem[d + 2]? = some r)
    (h1 : ringAt l s r ≠ -1) (t0 : 0 ≤ t) (t1 : t ≤ 1000000) (hn : (row.length : Int) ≤ sizeN r)
    (hP : ∀ j : Nat, j < row.length → ringAt l s r + (t + j) % sizeN r = P j ∧ P j < N ∧ mem[P j]? = row[j]?) :
    Calls Try.prog 19 #[lyV l, .agg #[.slice (some ⟨gm, 0, none⟩) N N], .int .i64 s] w (RowPost row w) := by
  obtain ⟨i0, hi0, hz0, hz1, hz2⟩ := info_parts int_info
  have c0 := memC_get v0
  have c1 := memC_get v1
  have c2 := memC_get v2
  have hof := ringAt_of l s r h1
  have hin := ringAt_in l s r f
  have hrn := ringsN_in l.c.tasks
  have hz := sizeN_pos r (by omega) (by omega)
  have hz1' := sizeN_in r
  have hs2 := f.s2
  have hfit : fitsB r t (t + row.length) = true := by simp [fitsB]; omega
  have p1 : 0 ≤ ringAt l s r ∧ ringAt l s r ≤ 1010000 := by omega
  have HP := Lib.hid hP
  have H1 := Lib.hid h1
  have HF := Lib.hid hfit
  have HM := Lib.hid (And.intro c0 (And.intro c1 (And.intro c2 hd)))
  have hr0 : 0 ≤ r ∧ r ≤ 4 := by omega
  have hgm := km.lt
  clear hP h1 hfit c0 c1 c2 hd v0 v1 v2 hof hin hrn
  go_enter Try.func19, Try.ntmps19
  go_wp2_with fail
  go_loopw [8, 9, 18, 19, 20, 21, 22, 23, 24, 25, 26, 27, 28, 29, 30, 31, 32, 33, 34, 35, 36, 37, 38, 39, 40, 41] (fun _ _ i _ _ _ _ _ _ _ _ _ _ _ _ _ _ _ _ _ _ _ _ _ _ _ wr => DqRel w l t (t + row.length) r gm N i wr) (fun _ _ i _ _ _ _ _ _ _ _ _ _ _ _ _ _ _ _ _ _ _ _ _ _ _ _ => 3 - (intOf i).toNat)
  case atStart => exact ⟨0, by omega, rfl, below_al (below_al (below_al (Below.refl _ _) _) _) _, ((Bk.made w _ _).alloc _).alloc _, (Bk.new _ (by simp) _ _).alloc _, Bk.new _ (by simp) _ _⟩
  case round =>
    obtain ⟨k, hk, rfl, hbl, k0, k1, k2⟩ := hrel
    have hcs : k = 0 ∨ k = 1 ∨ k = 2 ∨ k = 3 := by omega
    have l0 := k0.lt
    rcases hcs with rfl | rfl | rfl | rfl
    · go_wp2_with (refine wpList_load_row rfl 26 (.tmp 3) rfl w.heap.size rfl 26 (lyC l) (0, 0) _ k0 Try.underlying26 rfl (by kernel_rfl) ?_)
      (with_reducible refine (deque_in l s 0 0 d _ rfl hs0 hs1 hs2 (by omega) hd0 hd1 HM.out.2.2.2).mono ?_)
      rintro e w4 ⟨rfl, hb⟩
      replace k0 := k0.keep hb
      replace k1 := k1.keep hb
      replace k2 := k2.keep hb
      replace hbl := below_tr hbl hb
      clear hb
      have q1 := k1.cell 0
      have q2 := k2.cell 0
      have q3 := ((km.below hbl hgm).cell (d + 0)).trans HM.out.1
      simp [arr3] at q1 q2
      have f2 := k2.free 0
      have g1 : decide (((d + 0 : Nat) : Int) < 0) = false := by simp
      have g2 : decide ((N : Int) ≤ ((d + 0 : Nat) : Int)) = false := by simp; omega
      have g3 : ((d + 0 : Nat) : Int) < N := by omega
      have HX := Lib.hid (And.intro hbl (And.intro k0 (And.intro k1 (And.intro (k2.stored 0 (.int .i64 (t))) km))))
      have lt2 := k2.lt
      clear hbl k0 k1 k2 km
      generalize hdk : d + 0 = dk at *
      go_wp2
      go_roundw
      case rel => exact ⟨1, by omega, by go_num, below_set HX.out.1 (by dsimp only; omega) _, HX.out.2.1.other (by dsimp only; omega) _, HX.out.2.2.1.other (by dsimp only; omega) _, HX.out.2.2.2.1⟩
      case measure => simp [intOf]
    · go_wp2_with (refine wpList_load_row rfl 26 (.tmp 3) rfl w.heap.size rfl 26 (lyC l) (0, 0) _ k0 Try.underlying26 rfl (by kernel_rfl) ?_)
      (with_reducible refine (deque_in l s 1 1 d _ rfl hs0 hs1 hs2 (by omega) hd0 hd1 HM.out.2.2.2).mono ?_)
      rintro e w4 ⟨rfl, hb⟩
      replace k0 := k0.keep hb
      replace k1 := k1.keep hb
      replace k2 := k2.keep hb
      replace hbl := below_tr hbl hb
      clear hb
      have q1 := k1.cell 0
      have q2 := k2.cell 1
      have q3 := ((km.below hbl hgm).cell (d + 1)).trans HM.out.2.1
      simp [arr3] at q1 q2
      have f2 := k2.free 1
      have g1 : decide (((d + 1 : Nat) : Int) < 0) = false := by simp; omega
      have g2 : decide ((N : Int) ≤ ((d + 1 : Nat) : Int)) = false := by simp; omega
      have g3 : ((d + 1 : Nat) : Int) < N := by omega
      have HX := Lib.hid (And.intro hbl (And.intro k0 (And.intro k1 (And.intro (k2.stored 1 (.int .i64 (t + row.length))) km))))
      have lt2 := k2.lt
      clear hbl k0 k1 k2 km
      generalize hdk : d + 1 = dk at *
      go_wp2
      go_roundw
      case rel => exact ⟨2, by omega, by go_num, below_set HX.out.1 (by dsimp only; omega) _, HX.out.2.1.other (by dsimp only; omega) _, HX.out.2.2.1.other (by dsimp only; omega) _, HX.out.2.2.2.1⟩
      case measure => simp [intOf]
    · go_wp2_with (refine wpList_load_row rfl 26 (.tmp 3) rfl w.heap.size rfl 26 (lyC l) (0, 0) _ k0 Try.underlying26 rfl (by kernel_rfl) ?_)
      (with_reducible refine (deque_in l s 2 2 d _ rfl hs0 hs1 hs2 (by omega) hd0 hd1 HM.out.2.2.2).mono ?_)
      rintro e w4 ⟨rfl, hb⟩
      replace k0 := k0.keep hb
      replace k1 := k1.keep hb
      replace k2 := k2.keep hb
      replace hbl := below_tr hbl hb
      clear hb
      have q1 := k1.cell 0
      have q2 := k2.cell 2
      have q3 := ((km.below hbl hgm).cell (d + 2)).trans HM.out.2.2.1
      simp [arr3] at q1 q2
      have f2 := k2.free 2
      have g1 : decide (((d + 2 : Nat) : Int) < 0) = false := by simp; omega
      have g2 : decide ((N : Int) ≤ ((d + 2 : Nat) : Int)) = false := by simp; omega
      have g3 : ((d + 2 : Nat) : Int) < N := by omega
      have HX := Lib.hid (And.intro hbl (And.intro k0 (And.intro k1 (And.intro (k2.stored 2 (.int .i64 (r))) km))))
      have lt2 := k2.lt
      clear hbl k0 k1 k2 km
      generalize hdk : d + 2 = dk at *
      go_wp2
      go_roundw
      case rel => exact ⟨3, by omega, by go_num, below_set HX.out.1 (by dsimp only; omega) _, HX.out.2.1.other (by dsimp only; omega) _, HX.out.2.2.1.other (by dsimp only; omega) _, HX.out.2.2.2.1⟩
      case measure => simp [intOf]
    · have q0 := k2.cell 0
      have q1 := k2.cell 1
      have q2 := k2.cell 2
      simp [arr3] at q0 q1 q2
      have lt2 := k2.lt
      have HX := Lib.hid hbl
      have HK := Lib.hid (And.intro k0 k1)
      clear hbl k0 k1 k2
      go_wp2_with fail
      go_quiet (fail)
      have k0 := HK.out.1.drewN nq
      have k1 := HK.out.2.drewN nq
      have hbl := below_dn HX.out nq
      clear HK HX q0 q1 q2
      generalize wr.drewN nq = w5 at *
      go_wp2_with (refine wpList_load_row rfl 26 (.tmp 3) rfl w.heap.size rfl 26 (lyC l) (0, 0) _ k0 Try.underlying26 rfl (by kernel_rfl) ?_)
      (with_reducible refine (places_ok l s r _ f H1.out).mono ?_)
      rintro e w6 ⟨g, h, rfl, hg, hh, k3, k4, hb⟩
      replace k1 := k1.keep hb
      replace hbl := below_tr hbl hb
      clear hb k0
      have hb63 : t + (row.length : Int) ≤ 9223372036854775807 := by omega
      go_wp2_with fail
      (with_reducible refine (fits_any r t (t + row.length) _ hb63).mono ?_)
      rintro e w7 ⟨rfl, rfl⟩
      rw [HF.out]
      replace km := km.below hbl hgm
      have gm7 := km.lt
      generalize ringAt l s r = a at *
      generalize sizeN r = z at *
      have e1 := k1.lt
      have e3 := k3.lt
      have e4 := k4.lt
      have hx1 : t + (row.length : Int) - t = row.length := by omega
      clear hg hh lt2
      go_wp2_with fail
      go_loopw [15, 16, 17, 67, 68, 69, 70, 71, 72, 73, 74, 75, 76, 77, 78, 79, 80, 81, 82, 83, 84, 85, 86, 87, 88] (fun v _ _ i _ _ _ _ _ _ _ _ _ _ _ _ _ _ _ _ _ _ _ _ _ wr => RwRel w7 row v i wr) (fun _ _ _ i _ _ _ _ _ _ _ _ _ _ _ _ _ _ _ _ _ _ _ _ _ _ => row.length - (intOf i).toNat)
      case atStart => exact ⟨0, Nat.zero_le _, rfl, Below.refl _ _, World.ownsRow_nil _ _ _ _⟩
      case round =>
        obtain ⟨k, hk, rfl, hbw, hown⟩ := hrel
        by_cases hlt : k < row.length
        · obtain ⟨y1, y2, y3⟩ := HP.out k hlt
          obtain ⟨x, hx⟩ : ∃ x, row[k]? = some x := ⟨_, List.getElem?_eq_getElem hlt⟩
          rw [hx] at y3
          have g0 : decide ((k : Int) < row.length) = true := by simp; omega
          replace k1 := k1.below hbw e1
          replace k3 := k3.below hbw e3
          replace k4 := k4.below hbw e4
          replace km := km.below hbw gm7
          have HO := Lib.hid hown
          have HB := Lib.hid hbw
          have HX := Lib.hid hx
          have HY := Lib.hid (And.intro y1 (memC_get y3))
          clear hown hbw hx y1 y3
          go_wp2_with fail
          (with_reducible refine (placesf_any (t + k) a z g h _ k3 k4 (by omega) hz hz1'.2 p1.1 (by omega)).mono ?_)
          rintro e w8 ⟨rfl, m, rfl⟩
          rw [HY.out.1]
          replace HO := Lib.hid (show (wr.drewN m).ownsRow _ _ _ _ _ _ from HO.out)
          replace HB := Lib.hid (below_dn HB.out m)
          have q1 := (k1.drewN m).cell 0
          have q2 := ((km.drewN m).cell (P k)).trans HY.out.2
          have gm8 := (km.drewN m).lt
          clear k1 k3 k4 km
          generalize wr.drewN m = w8 at *
          simp at q1
          have g1 : decide ((N : Int) ≤ (P k : Int)) = false := by simp; omega
          have g2 : ((P k : Nat) : Int) < N := by omega
          have hrow := World.ownsRow.alloc HO.out (.cells #[.int .i64 x] 3)
          have hsz := HB.out.size
          generalize P k = pk at *
          go_wp2_with (at_builtin; go_must (refine wpList_append_own_at _ rfl (.tmp 80) (.tmp 86) _ rfl w7.heap.size 3 i0 _ 1 8 Try.underlying41 hi0 hz0 hz1 hz2 rfl (by omega) u15 k _ rfl hrow ⟨w8.heap.size, 0, none⟩ 1 1 [.int .i64 x] rfl rfl (one_news w8 x) (one_one x) (by simp only [maxLen]; omega) (by omega) (by simp; omega) ?_; intro v9 w9 hrow9 hgrow9 _ _))
          go_roundw
          case rel =>
            refine ⟨k + 1, by omega, by go_num, ?_, ?_⟩
            · exact (below_al HB.out _).grown hgrow9 (by simp; omega) (fun j hj => by have := (World.ownsRow.lt hrow _ hj).1; omega)
            · rw [List.take_add_one, HX.out]
              simpa using hrow9
          case measure => simp [intOf]; omega
        · obtain rfl : k = row.length := by omega
          have g0 : decide ((row.length : Int) < row.length) = false := by simp
          have HO := Lib.hid hown
          have HB := Lib.hid hbw
          clear hown hbw
          go_wp2
          go_ret
          obtain ⟨G, cap, rfl⟩ := own_slice' HO.out
          refine ⟨G, cap, by simp, ?_, below_tr hbl HB.out⟩
          have := own_low HO.out hbl.size
          rwa [List.take_length] at this
end Go.Proofs.Ytekibkfpamfmoaa
