/- The walk of LayoutApart. Printed by apart14_gen.py. -/
import Derived.Test.YthaieabhlodajaaHad
import Derived.Deep.CutRange
import Derived.Deep.DeepCutAuto
namespace Go.Proofs.Ythaieabhlodajaa
open Go.RowKit
attribute [local go_sem ↓] Go.wp_at_zero Go.wp_at_succ

/-- What is known of the world on the way. -/
structure At (w : World) (l : Ly) (g gm N : Nat) (L : List Nat) (wr : World) (mem : List Int) : Prop where
  bl : Below w.heap.size w wr
  kl : Bk wr g 26 (lyC l)
  km : Bk wr gm 3 (memC mem)
  had : HadIs mem N L
theorem At.keep {w : World} {l : Ly} {g gm N : Nat} {L : List Nat} {wr w' : World} {mem : List Int} (h : At w l g gm N L wr mem) (hb : Below wr.heap.size wr w') : At w l g gm N L w' mem :=
  ⟨below_tr h.bl hb, h.kl.keep hb, h.km.keep hb, h.had⟩
theorem At.drewN {w : World} {l : Ly} {g gm N : Nat} {L : List Nat} {wr : World} {mem : List Int} (h : At w l g gm N L wr mem) (n : Nat) : At w l g gm N L (wr.drewN n) mem :=
  ⟨below_dn h.bl n, h.kl, h.km, h.had⟩
theorem At.hit {w : World} {l : Ly} {g gm N : Nat} {L : List Nat} {wr : World} {mem : List Int} (h : At w l g gm N L wr mem) (hg : g ≠ gm) (hgm : w.heap.size ≤ gm) {c : Nat} (hc : c < N) {v : Int} (hv : ((L.count c : Nat) : Int) + 1 = v) :
    At w l g gm N (L ++ [c]) (wr.setCell ⟨gm, c, none⟩ (.int .i64 v)) (mem.set c v) := by
  subst hv
  refine ⟨below_set h.bl hgm _, h.kl.other hg _, ?_, h.had.hit hc⟩
  have := h.km.stored c (.int .i64 (((L.count c : Nat) : Int) + 1))
  rw [memC_set] at this
  exact this
theorem At.cell {w : World} {l : Ly} {g gm N : Nat} {L : List Nat} {wr : World} {mem : List Int} (h : At w l g gm N L wr mem) {c : Nat} (hc : c < N) {v : Int} (hv : ((L.count c : Nat) : Int) = v) : wr.cell? ⟨gm, c, none⟩ = some (.int .i64 v) := by
  subst hv
  exact (h.km.cell c).trans (memC_get (h.had.at_ c hc))
theorem bk_inj {w : World} {g : Nat} {t t' : TypeId} {cs cs' : Array Value} (h : Bk w g t cs) (h' : Bk w g t' cs') : cs = cs' := by
  have e := Option.some.inj (h.symm.trans h')
  injection e
def R1 (w : World) (l : Ly) (g gm N : Nat) (i : Value) (wr : World) : Prop := ∃ (a : Nat) (mem : List Int), a ≤ 64 ∧ i = .int .i64 a ∧ At w l g gm N (hits l a) wr mem
def R2 (w : World) (l : Ly) (g gm N a : Nat) (i : Value) (wr : World) : Prop := ∃ (b : Nat) (mem : List Int), b ≤ 16 ∧ i = .int .i64 b ∧ At w l g gm N (LB l a b) wr mem
def R3 (w : World) (l : Ly) (g gm N a b gp : Nat) (i : Value) (wr : World) : Prop := ∃ (k : Nat) (mem : List Int), k ≤ 14 ∧ i = .int .i64 k ∧ At w l g gm N (LK l a b k) wr mem ∧ Bk wr gp 3 (memC (rowAt l a b))
def R4 (b : Nat) (m r : Value) : Prop := ∃ n : Nat, n ≤ b ∧ r = .int .i64 n ∧ m = .int .i64 ((4 * 2 ^ n : Nat) : Int)
def R5 (w : World) (l : Ly) (g gm N a b k gp : Nat) (i : Value) (wr : World) : Prop := ∃ (j : Nat) (mem : List Int), j ≤ manyN k b ∧ i = .int .i64 j ∧ At w l g gm N (LI l a b k j) wr mem ∧ Bk wr gp 3 (memC (rowAt l a b))
def R6 (N : Nat) (i : Value) : Prop := ∃ j : Nat, j ≤ N ∧ i = .int .i64 j

set_option maxRecDepth 100000 in
set_option maxHeartbeats 16000000 in
theorem apart_any (c : Cf) (w : World) : Calls Try.prog 8 #[cfV c] w (BoolBelow true w) := by
  go_enter Try.func8, Try.ntmps8
  go_wp2_with fail
  (with_reducible refine (shown_any _).mono ?_)
  rintro e w1 ⟨rfl, hb⟩
  have k1 := (Bk.made w 23 (cfC c)).keep hb
  have hbl := below_tr (below_al (Below.refl w.heap.size w) (.cells (cfC c) 23)) hb
  clear hb
  go_wp2_with (refine wpList_load_row rfl 23 (.tmp 1) rfl w.heap.size rfl 23 (cfC c) (0, 0) _ k1 Try.underlying23 rfl (by kernel_rfl) ?_)
  (with_reducible refine (rof_any c _).mono ?_)
  rintro e w2 ⟨l, er, rfl, hcase, hb⟩
  replace k1 := k1.keep hb
  replace hbl := below_tr hbl hb
  clear hb
  have k4 := Bk.made w2 26 (lyC l)
  replace k1 := k1.alloc (.cells (lyC l) 26)
  replace hbl := below_al hbl (.cells (lyC l) 26)
  go_upto_region 3 with (refine wpList_store_new rfl 26 (.tmp 4) (.tmp 22) rfl rfl w2.heap.size _ _ (lyC l) rfl rfl rfl rfl (by kernel_rfl) rfl (by simp [Value.oneCell']) ?_; (generalize w2.alloc (.cells (lyC l) 26) = w3 at *))
  generalize w2.heap.size = g at *
  rcases hcase with ⟨hcan, hL, rfl⟩ | ⟨hcan, hL, rfl⟩
  rotate_left
  · clear hL hcan
    go_wp2
    go_ret
    exact ⟨rfl, hbl⟩
  have c0 := k1.cell 0
  have c1 := k1.cell 1
  have c2 := k1.cell 2
  have c4 := k1.cell 4
  simp at c0 c1 c2 c4
  have HC := Lib.hid (And.intro hcan hL)
  clear hcan hL k1
  by_cases h0 : 2 < c.seats
  · have g0 : decide (2 < c.seats) = true := by simpa using h0
    go_wp2
    go_ret
    exact ⟨rfl, hbl⟩
  have g0 : decide (2 < c.seats) = false := by simpa using h0
  by_cases h1 : 9 < c.tasks
  · have g1 : decide (9 < c.tasks) = true := by simpa using h1
    go_wp2
    go_ret
    exact ⟨rfl, hbl⟩
  have g1 : decide (9 < c.tasks) = false := by simpa using h1
  by_cases h2 : 8 < c.buckets
  · have g2 : decide (8 < c.buckets) = true := by simpa using h2
    go_wp2
    go_ret
    exact ⟨rfl, hbl⟩
  have g2 : decide (8 < c.buckets) = false := by simpa using h2
  by_cases h3 : 20 < c.nodes
  · have g3 : decide (20 < c.nodes) = true := by simpa using h3
    go_wp2
    go_ret
    exact ⟨rfl, hbl⟩
  have g3 : decide (20 < c.nodes) = false := by simpa using h3
  go_upto_region 5 with fail
  clear c0 c1 c2 c4 g0 g1 g2 g3
  obtain ⟨hcan, hL⟩ := HC.out
  have hch := chain_of c hcan
  have hfu := lyFull_of c hcan
  have hfi := lyFit_lay c hcan
  have hbd := (lyOk_of c hcan).b0
  have hlen0 := And.intro (lyOk_of c hcan).owner (And.intro (lyOk_of c hcan).resv (And.intro (lyOk_of c hcan).deque (And.intro (lyOk_of c hcan).ring (And.intro (lyOk_of c hcan).task (And.intro (lyOk_of c hcan).cell (lyOk_of c hcan).m0)))))
  have r0 : 1 ≤ c.seats ∧ c.seats ≤ 8 := hcan.1.1 0 (by omega)
  have r3 : 1 ≤ c.tasks ∧ c.tasks ≤ 64 := hcan.1.1 3 (by omega)
  have r1 : 1 ≤ c.buckets ∧ c.buckets ≤ 64 := hcan.1.1 1 (by omega)
  have r2 : 1 ≤ c.slots ∧ c.slots ≤ 8 := hcan.1.1 2 (by omega)
  have r4 : 0 ≤ c.cells ∧ c.cells ≤ 16 := hcan.1.1 4 (by omega)
  have r5 : 0 ≤ c.maps ∧ c.maps ≤ 8 := hcan.1.1 5 (by omega)
  have r6 : 0 ≤ c.stacks ∧ c.stacks ≤ 8 := hcan.1.1 6 (by omega)
  have r7 : 0 ≤ c.chans ∧ c.chans ≤ 8 := hcan.1.1 7 (by omega)
  rw [← hL] at hch hfu hfi hbd hlen0
  have hlc : l.c = c := by rw [hL]; rfl
  have hsm : Small l := by
    refine ⟨?_, ?_, ?_, ?_, ?_, ?_, ?_, ?_, ?_, ?_, ?_⟩ <;> rw [hlc] <;> omega
  have d0 : l.done = 0 := by rw [hL]; rfl
  have d1 : l.count = 1 := by rw [hL]; rfl
  have d2 : l.era = 2 := by rw [hL]; rfl
  have d3 : l.free = 3 := by rw [hL]; rfl
  obtain ⟨N, hN⟩ : ∃ N : Nat, l.size = N := ⟨l.size.toNat, by omega⟩
  have hN1 : N ≤ 1000000 := by omega
  have hN4 : 16 ≤ N := by
    obtain ⟨u1, u2, u3, u4, u5, u6, u7⟩ := hlen0
    omega
  have dn : (lyC l)[9]? = some (.int .i64 0) ∧ (lyC l)[10]? = some (.int .i64 1) ∧ (lyC l)[11]? = some (.int .i64 2) ∧ (lyC l)[12]? = some (.int .i64 3) ∧ (lyC l)[24]? = some (.int .i64 N) :=
    ⟨by show some (Value.int .i64 l.done) = _; rw [d0], by show some (Value.int .i64 l.count) = _; rw [d1], by show some (Value.int .i64 l.era) = _; rw [d2], by show some (Value.int .i64 l.free) = _; rw [d3], by show some (Value.int .i64 l.size) = _; rw [hN]⟩
  have q24 := (k4.cell 24).trans dn.2.2.2.2
  have t1 := hfi.t1
  have t2 := hfi.t2
  have HF := Lib.hid (And.intro hch (And.intro hsm (And.intro hfu (And.intro hfi hN))))
  clear hch hsm hfu hfi hbd hN hlc d0 d1 d2 d3 hcan hL HC r0 r1 r2 r3 r4 r5 r6 r7 h0 h1 h2 h3 hlen0
  go_upto_region 6 with (refine wpList_make_ints rfl _ _ rfl N rfl rfl hN1 ?_)
  have hgm := hbl.size
  have hgk0 := k4.lt
  have hat : At w l g w3.heap.size N [] (w3.alloc (.cells (memC (List.replicate N 0)) 3)) (List.replicate N 0) := ⟨below_al hbl _, k4.alloc _, Bk.made w3 _ _, HadIs.none N⟩
  clear q24 hbl k4
  generalize w3.alloc (.cells (memC (List.replicate N 0)) 3) = w4 at *
  have hgk : g ≠ w3.heap.size := by omega
  generalize w3.heap.size = gm at *
  have qf := (hat.kl.cell 9).trans dn.1
  have qc := hat.cell (c := 0) (by omega) (v := 0) rfl
  have qz := hat.km.free 0
  have ql := hat.km.lt
  have qi : (0 : Int) < N := by omega
  go_upto_region 7 with fail
  replace hat := hat.hit hgk hgm (c := 0) (by omega) (v := 1) rfl
  clear qf qc qz ql qi
  generalize w4.setCell ⟨gm, 0, none⟩ (.int .i64 1) = w5 at *
  generalize (List.replicate N (0 : Int)).set 0 1 = m0 at *
  have qf := (hat.kl.cell 10).trans dn.2.1
  have qc := hat.cell (c := 1) (by omega) (v := 0) rfl
  have qz := hat.km.free 1
  have ql := hat.km.lt
  have qi : (1 : Int) < N := by omega
  go_upto_region 8 with fail
  replace hat := hat.hit hgk hgm (c := 1) (by omega) (v := 1) rfl
  clear qf qc qz ql qi
  generalize w5.setCell ⟨gm, 1, none⟩ (.int .i64 1) = w6 at *
  generalize m0.set 1 1 = m1 at *
  have qf := (hat.kl.cell 11).trans dn.2.2.1
  have qc := hat.cell (c := 2) (by omega) (v := 0) rfl
  have qz := hat.km.free 2
  have ql := hat.km.lt
  have qi : (2 : Int) < N := by omega
  go_upto_region 9 with fail
  replace hat := hat.hit hgk hgm (c := 2) (by omega) (v := 1) rfl
  clear qf qc qz ql qi
  generalize w6.setCell ⟨gm, 2, none⟩ (.int .i64 1) = w7 at *
  generalize m1.set 2 1 = m2 at *
  have qf := (hat.kl.cell 12).trans dn.2.2.2.1
  have qc := hat.cell (c := 3) (by omega) (v := 0) rfl
  have qz := hat.km.free 3
  have ql := hat.km.lt
  have qi : (3 : Int) < N := by omega
  go_upto_region 10 with fail
  replace hat := hat.hit hgk hgm (c := 3) (by omega) (v := 1) rfl
  clear qf qc qz ql qi
  generalize w7.setCell ⟨gm, 3, none⟩ (.int .i64 1) = w8 at *
  generalize m2.set 3 1 = m3 at *
  have k4 := hat.kl
  go_wp2_with (refine wpList_load_row rfl 26 (.tmp 4) rfl g rfl 26 (lyC l) (0, 0) _ k4 Try.underlying26 rfl (by kernel_rfl) ?_)
  (with_reducible refine (rings_any l _ t1 t2).mono ?_)
  rintro e w9 ⟨rfl, hb⟩
  replace hat := hat.keep hb
  clear hb k4
  have hat1 : At w l g gm N (hits l 0) w9 m3 := hat
  clear hat
  have HAT := Lib.hid hat1
  have HDN := Lib.hid dn
  clear hat1 dn
  go_wp2_with fail
  go_loopw [8, 9, 10, 11, 12, 13, 14, 15, 16, 80, 81, 82, 83, 84, 85, 86, 87, 88, 89, 90, 91, 92, 93, 94, 95, 96, 97, 98, 99, 100, 101, 102, 103, 104, 105, 106, 107, 108, 109, 110, 111, 112, 113, 114, 115, 116, 117, 118, 119, 120, 121, 122, 123, 124, 125, 126, 127, 128, 129, 130, 131, 132, 133, 134, 135, 136, 137, 138, 139, 140, 141, 142, 143, 144, 145, 146, 147, 148, 149, 150, 151, 152, 153, 154, 155, 156, 157, 158, 159, 160, 161, 162, 163, 164, 165, 166, 167, 168, 169, 170] (fun i _ _ _ _ _ _ _ _ _ _ _ _ _ _ _ _ _ _ _ _ _ _ _ _ _ _ _ _ _ _ _ _ _ _ _ _ _ _ _ _ _ _ _ _ _ _ _ _ _ _ _ _ _ _ _ _ _ _ _ _ _ _ _ _ _ _ _ _ _ _ _ _ _ _ _ _ _ _ _ _ _ _ _ _ _ _ _ _ _ _ _ _ _ _ _ _ _ _ _ wr => R1 w l g gm N i wr) (fun i _ _ _ _ _ _ _ _ _ _ _ _ _ _ _ _ _ _ _ _ _ _ _ _ _ _ _ _ _ _ _ _ _ _ _ _ _ _ _ _ _ _ _ _ _ _ _ _ _ _ _ _ _ _ _ _ _ _ _ _ _ _ _ _ _ _ _ _ _ _ _ _ _ _ _ _ _ _ _ _ _ _ _ _ _ _ _ _ _ _ _ _ _ _ _ _ _ _ _ _ => 64 - (intOf i).toNat)
  case atStart => exact ⟨0, m3, by omega, rfl, HAT.out⟩
  case round =>
    clear HAT
    obtain ⟨a, mem, ha, rfl, hat⟩ := hrel
    have HAT := Lib.hid hat
    clear hat
    by_cases ha64 : a < 64
    · have i1 : (a : Int) < 64 := by omega
      go_wp2_with fail
      go_loopw [9, 10, 11, 12, 13, 14, 15, 16, 84, 85, 86, 87, 88, 89, 90, 91, 92, 93, 94, 95, 96, 97, 98, 99, 100, 101, 102, 103, 104, 105, 106, 107, 108, 109, 110, 111, 112, 113, 114, 115, 116, 117, 118, 119, 120, 121, 122, 123, 124, 125, 126, 127, 128, 129, 130, 131, 132, 133, 134, 135, 136, 137, 138, 139, 140, 141, 142, 143, 144, 145, 146, 147, 148, 149, 150, 151, 152, 153, 154, 155, 156, 157, 158, 159, 160, 161, 162, 163, 164, 165, 166, 167, 168, 169, 170] (fun i _ _ _ _ _ _ _ _ _ _ _ _ _ _ _ _ _ _ _ _ _ _ _ _ _ _ _ _ _ _ _ _ _ _ _ _ _ _ _ _ _ _ _ _ _ _ _ _ _ _ _ _ _ _ _ _ _ _ _ _ _ _ _ _ _ _ _ _ _ _ _ _ _ _ _ _ _ _ _ _ _ _ _ _ _ _ _ _ _ _ _ _ _ _ wr => R2 w l g gm N a i wr) (fun i _ _ _ _ _ _ _ _ _ _ _ _ _ _ _ _ _ _ _ _ _ _ _ _ _ _ _ _ _ _ _ _ _ _ _ _ _ _ _ _ _ _ _ _ _ _ _ _ _ _ _ _ _ _ _ _ _ _ _ _ _ _ _ _ _ _ _ _ _ _ _ _ _ _ _ _ _ _ _ _ _ _ _ _ _ _ _ _ _ _ _ _ _ _ _ => 16 - (intOf i).toNat)
      case atStart => exact ⟨0, mem, by omega, rfl, by rw [LB_zero]; exact HAT.out⟩
      case round =>
        clear HAT
        obtain ⟨b, mem1, hb16, rfl, hat⟩ := hrel
        by_cases hb1 : b < 16
        · have i2 : (b : Int) < 16 := by omega
          have hlen : (rowAt l a b).length = 14 := rfl
          obtain ⟨sb, hsb⟩ : ∃ sb, ((b : Int) == 0) = sb := ⟨_, rfl⟩
          have k4 := hat.kl
          go_wp2_with (refine wpList_load_row rfl 26 (.tmp 4) rfl g rfl 26 (lyC l) (0, 0) _ k4 Try.underlying26 rfl (by kernel_rfl) ?_)
          (with_reducible refine (places_any l a b _ HF.out.2.2.1 HF.out.2.2.2.1 (by omega)).mono ?_)
          rintro e w10 ⟨gp, rfl, kp, hb⟩
          replace hat := hat.keep hb
          clear hb k4
          rw [hlen]
          have hgp : gm ≠ gp := fun e => by
            subst e
            have h1 := congrArg Array.size (bk_inj hat.km kp)
            have h2 := hat.had.len
            simp [rowAt] at h1
            omega
          have HAT := Lib.hid (And.intro hat kp)
          clear hat kp
          go_wp2_with fail
          go_loopw [12, 13, 14, 15, 16, 94, 95, 96, 97, 98, 99, 100, 101, 102, 103, 104, 105, 106, 107, 108, 109, 110, 111, 112, 113, 114, 115, 116, 117, 118, 119, 120, 121, 122, 123, 124, 125, 126, 127, 128, 129, 130, 131, 132, 133, 134, 135, 136, 137, 138, 139, 140, 141, 142, 143, 144, 145, 146, 147, 148, 149, 150, 151, 152, 153, 154, 155, 156, 157, 158, 159, 160, 161, 162, 163, 164, 165, 166, 167, 168, 169, 170] (fun i _ _ _ _ _ _ _ _ _ _ _ _ _ _ _ _ _ _ _ _ _ _ _ _ _ _ _ _ _ _ _ _ _ _ _ _ _ _ _ _ _ _ _ _ _ _ _ _ _ _ _ _ _ _ _ _ _ _ _ _ _ _ _ _ _ _ _ _ _ _ _ _ _ _ _ _ _ _ _ _ _ wr => R3 w l g gm N a b gp i wr) (fun i _ _ _ _ _ _ _ _ _ _ _ _ _ _ _ _ _ _ _ _ _ _ _ _ _ _ _ _ _ _ _ _ _ _ _ _ _ _ _ _ _ _ _ _ _ _ _ _ _ _ _ _ _ _ _ _ _ _ _ _ _ _ _ _ _ _ _ _ _ _ _ _ _ _ _ _ _ _ _ _ _ _ => 14 - (intOf i).toNat)
          case atStart => exact ⟨0, mem1, by omega, rfl, by rw [LK_zero]; exact HAT.out.1, HAT.out.2⟩
          case round =>
            clear HAT
            obtain ⟨k, mem2, hk14, rfl, hat, kp⟩ := hrel
            by_cases hk1 : k < 14
            · have i3 : (k : Int) < 14 := by omega
              have HAT := Lib.hid (And.intro hat kp)
              have q1 := (kp.cell k).trans (memC_get (row_get l a b k hk1))
              clear hat kp
              obtain ⟨ob, hob⟩ : ∃ ob, oneB k = ob := ⟨_, rfl⟩
              have HOB := Lib.hid hob
              clear hob
              go_upto_region 22 with fail
              go_cut [13] from 94 to 170 (fun v wx => v = .bool ob ∧ wx = wr)
              case first =>
                have hk7 : k = 0 ∨ k = 1 ∨ k = 6 ∨ k = 9 ∨ k = 11 ∨ k = 12 ∨ (k ≠ 0 ∧ k ≠ 1 ∧ k ≠ 6 ∧ k ≠ 9 ∧ k ≠ 11 ∧ k ≠ 12) := by omega
                clear q1 HAT hk14 hk1 i3
                rcases hk7 with rfl | rfl | rfl | rfl | rfl | rfl | ⟨n0, n1, n6, n9, n11, n12⟩
                iterate 6
                  · go_wp2_with fail
                    go_meet
                    exact ⟨by rw [← HOB.out]; rfl, rfl⟩
                · have t0 : ((k : Int) == 0) = false := by simp; omega
                  have t1' : ((k : Int) == 1) = false := by simp; omega
                  have t6 : ((k : Int) == 6) = false := by simp; omega
                  have t9 : ((k : Int) == 9) = false := by simp; omega
                  have t11 : ((k : Int) == 11) = false := by simp; omega
                  have t12 : ((k : Int) == 12) = false := by simp; omega
                  have ho : oneB k = false := by simp [oneB]; omega
                  have HO := Lib.hid ho
                  clear ho n0 n1 n6 n9 n11 n12
                  go_wp2_with fail
                  go_meet
                  exact ⟨by rw [← HOB.out, HO.out], rfl⟩
              case rest =>
                obtain ⟨rfl, rfl⟩ := hcut
                go_upto_region 23 with fail
                obtain ⟨sk, hsk0⟩ : ∃ sk, decide (skipN l a b k) = sk := ⟨_, rfl⟩
                have HSK := Lib.hid hsk0
                clear hsk0
                go_cut [133] from 94 to 170 (fun v wx => v = .bool sk ∧ wx = wc)
                case first =>
                  by_cases hpn : plN l a b k < 0
                  · have g1 : decide (plN l a b k < 0) = true := by simpa using hpn
                    have HS := Lib.hid (show decide (skipN l a b k) = true by simp [skipN, hpn])
                    clear hpn
                    go_wp2_with fail
                    go_meet
                    exact ⟨by rw [← HSK.out, HS.out], rfl⟩
                  · have g1 : decide (plN l a b k < 0) = false := by simpa using hpn
                    have hoe := HOB.out
                    cases ob
                    · have HS := Lib.hid (show decide (skipN l a b k) = false from decide_eq_false (fun h => by
                        rcases h with h | ⟨h, _⟩
                        · exact hpn h
                        · rw [hoe] at h; cases h))
                      clear hoe hpn
                      go_wp2_with fail
                      go_meet
                      exact ⟨by rw [← HSK.out, HS.out], rfl⟩
                    · cases sb
                      · have hb0 : b ≠ 0 := by intro e; rw [e] at hsb; cases hsb
                        have HS := Lib.hid (show decide (skipN l a b k) = true from decide_eq_true (.inr ⟨hoe, hb0⟩))
                        clear hoe hpn hb0
                        go_wp2_with fail
                        go_meet
                        exact ⟨by rw [← HSK.out, HS.out], rfl⟩
                      · have hb0 : b = 0 := by simpa using hsb
                        have HS := Lib.hid (show decide (skipN l a b k) = false from decide_eq_false (fun h => by
                          rcases h with h | ⟨_, h⟩
                          · exact hpn h
                          · exact h hb0))
                        clear hoe hpn hb0
                        go_wp2_with fail
                        go_meet
                        exact ⟨by rw [← HSK.out, HS.out], rfl⟩
                case rest =>
                  obtain ⟨rfl, rfl⟩ := hcut
                  cases sk
                  rotate_left
                  · have hsk : skipN l a b k := of_decide_eq_true HSK.out
                    have hls := LK_skip l a b k hsk
                    have hat := HAT.out.1
                    rw [← hls] at hat
                    have HX := Lib.hid (And.intro hat HAT.out.2)
                    clear hsk hls hat HAT
                    go_wp2
                    go_roundw
                    case rel => exact ⟨k + 1, mem2, by omega, by go_num, HX.out.1, HX.out.2⟩
                    case measure => simp [intOf]; omega
                  · have hsk : ¬ skipN l a b k := of_decide_eq_false HSK.out
                    obtain ⟨p, hpl⟩ : ∃ p : Nat, plN l a b k = p := ⟨(plN l a b k).toNat, by unfold skipN at hsk; omega⟩
                    have HPL := Lib.hid hpl
                    clear hpl
                    by_cases hk4 : k = 4
                    · have hbr := ring_lt (l := l) (a := a) (b := b) (hk4 ▸ hsk)
                      have g4 : ((k : Int) == 4) = true := by simp; omega
                      have hpow : 2 ^ b ≤ 2 ^ 15 := Nat.pow_le_pow_right (by omega) (by omega)
                      have hmn : manyN k b = 4 * 2 ^ b := by unfold manyN; rw [if_pos hk4]
                      clear hk4
                      go_wp2_with fail
                      go_loop [14, 15, 136, 137, 138, 139, 140, 141, 142] (fun m r _ _ _ _ _ _ _ => R4 b m r) (fun _ r _ _ _ _ _ _ _ => b - (intOf r).toNat)
                      case atStart => exact ⟨0, Nat.zero_le _, rfl, rfl⟩
                      case round =>
                        obtain ⟨n, hn, rfl, rfl⟩ := hrel
                        have hpn : 2 ^ n ≤ 2 ^ 15 := Nat.pow_le_pow_right (by omega) (by omega)
                        by_cases hnb : n < b
                        · have i5 : (n : Int) < b := by omega
                          have e2 : 2 * ((4 * 2 ^ n : Nat) : Int) = ((4 * 2 ^ (n + 1) : Nat) : Int) := by rw [Nat.pow_succ]; omega
                          have HE2 := Lib.hid e2
                          clear e2
                          obtain ⟨M, hM⟩ : ∃ M : Nat, 4 * 2 ^ n = M := ⟨_, rfl⟩
                          have hM2 : M ≤ 131072 := by omega
                          have HM := Lib.hid hM
                          rw [hM]
                          clear hM hpn hpow
                          go_wp2
                          go_round
                          case rel =>
                            refine ⟨n + 1, by omega, by go_num, ?_⟩
                            rw [← HE2.out, HM.out]
                          case measure => simp [intOf]; omega
                        · have hbn : b = n := by omega
                          subst hbn
                          have i5 : decide ((b : Int) < b) = false := by simp
                          have i6 : decide (ringsN l.c.tasks ≤ (b : Int)) = false := by simp; omega
                          obtain ⟨M, hM⟩ : ∃ M : Nat, 4 * 2 ^ b = M := ⟨_, rfl⟩
                          rw [hM] at hmn ⊢
                          have HMN := Lib.hid hmn
                          clear hM hmn hpow hpn hbr hnb hn
                          go_wp2_with fail
                          go_loopw [16, 146, 147, 148, 149, 150, 151, 152, 153, 154, 155, 156, 157, 158, 159, 160, 161, 162, 163, 164, 165, 166, 167, 168, 169, 170] (fun i _ _ _ _ _ _ _ _ _ _ _ _ _ _ _ _ _ _ _ _ _ _ _ _ _ wr => R5 w l g gm N a b k gp i wr) (fun i _ _ _ _ _ _ _ _ _ _ _ _ _ _ _ _ _ _ _ _ _ _ _ _ _ _ => manyN k b - (intOf i).toNat)
                          case atStart => exact ⟨0, mem2, Nat.zero_le _, rfl, by rw [LI_zero]; exact HAT.out.1, HAT.out.2⟩
                          case round =>
                            clear HAT q1
                            obtain ⟨j, mem3, hjm, rfl, hat, kp⟩ := hrel
                            by_cases hj1 : j < manyN k b
                            · have hlt := pl_lt HF.out.1 hk1 hj1 hsk
                              have hcnt := LI_count HF.out.1 HF.out.2.1 (x := p + j) ha64 hb1 hk1 hjm hsk (by rw [HPL.out] at hlt; omega)
                              rw [HPL.out, HF.out.2.2.2.2] at hlt
                              have hpn : (plN l a b k).toNat = p := by rw [HPL.out]; simp
                              obtain ⟨v, hv⟩ : ∃ v : Int, (((LI l a b k j).count (p + j) : Nat) : Int) = v := ⟨_, rfl⟩
                              have hv0 : 0 ≤ v ∧ v ≤ 1 := by omega
                              have hnx := LI_next l a b k j
                              rw [hpn] at hnx
                              have hpj : p + j < N := by omega
                              have hpj' : (p : Int) + j < N := by omega
                              have hjm' : (j : Int) < (M : Int) := by rw [HMN.out] at hj1; omega
                              have g1 : decide ((N : Int) ≤ (p : Int) + j) = false := by simp; omega
                              have q1 := (kp.cell k).trans (memC_get (row_get l a b k hk1))
                              rw [HPL.out] at q1
                              have q24 := (hat.kl.cell 24).trans HDN.out.2.2.2.2
                              have HX := Lib.hid (And.intro hat (And.intro kp (And.intro hv hnx)))
                              have HQ := Lib.hid q1
                              clear hat kp hv hnx hcnt hlt hpn
                              go_wp2_with fail
                              go_quiet (fail)
                              have hat := HX.out.1.drewN nq
                              have kp := HX.out.2.1
                              have q1' := (Bk.cell (w := wr.drewN nq) kp k).trans (memC_get (row_get l a b k hk1))
                              rw [HPL.out] at q1'
                              clear q1 q24
                              have qc := hat.cell hpj HX.out.2.2.1
                              have qf := hat.km.free (p + j)
                              have ql := hat.km.lt
                              have hat2 := hat.hit hgk hgm hpj (v := v + 1) (by rw [HX.out.2.2.1])
                              have kp2 := Bk.other (w := wr.drewN nq) kp (p := ⟨gm, p + j, none⟩) (fun e => hgp e.symm) (.int .i64 (v + 1))
                              rw [← HX.out.2.2.2] at hat2
                              have HY := Lib.hid (And.intro hat2 kp2)
                              clear hat kp hat2 kp2 HX HQ
                              generalize wr.drewN nq = w20 at *
                              go_wp2
                              go_roundw
                              case rel => exact ⟨j + 1, mem3.set (p + j) (v + 1), by omega, by go_num, HY.out.1, HY.out.2⟩
                              case measure => simp [intOf]; omega
                            · have hje : j = manyN k b := by omega
                              rw [hje, LI_end l a b k hsk] at hat
                              have hjM : j = M := by rw [HMN.out] at hje; exact hje
                              subst hjM
                              have hge : decide ((j : Int) < (j : Int)) = false := by simp
                              have HX := Lib.hid (And.intro hat kp)
                              clear hat kp hje hj1 hjm
                              go_wp2
                              go_roundw
                              case rel => exact ⟨k + 1, mem3, by omega, by go_num, HX.out.1, HX.out.2⟩
                              case measure => simp [intOf]; omega
                    · have g4 : ((k : Int) == 4) = false := by simp; omega
                      have hmn : manyN k b = 1 := by unfold manyN; rw [if_neg hk4]
                      have HMN := Lib.hid hmn
                      clear hmn
                      go_wp2_with fail
                      go_loopw [16, 146, 147, 148, 149, 150, 151, 152, 153, 154, 155, 156, 157, 158, 159, 160, 161, 162, 163, 164, 165, 166, 167, 168, 169, 170] (fun i _ _ _ _ _ _ _ _ _ _ _ _ _ _ _ _ _ _ _ _ _ _ _ _ _ wr => R5 w l g gm N a b k gp i wr) (fun i _ _ _ _ _ _ _ _ _ _ _ _ _ _ _ _ _ _ _ _ _ _ _ _ _ _ => manyN k b - (intOf i).toNat)
                      case atStart => exact ⟨0, mem2, Nat.zero_le _, rfl, by rw [LI_zero]; exact HAT.out.1, HAT.out.2⟩
                      case round =>
                        clear HAT q1
                        obtain ⟨j, mem3, hjm, rfl, hat, kp⟩ := hrel
                        by_cases hj1 : j < manyN k b
                        · have hlt := pl_lt HF.out.1 hk1 hj1 hsk
                          have hcnt := LI_count HF.out.1 HF.out.2.1 (x := p + j) ha64 hb1 hk1 hjm hsk (by rw [HPL.out] at hlt; omega)
                          rw [HPL.out, HF.out.2.2.2.2] at hlt
                          have hpn : (plN l a b k).toNat = p := by rw [HPL.out]; simp
                          obtain ⟨v, hv⟩ : ∃ v : Int, (((LI l a b k j).count (p + j) : Nat) : Int) = v := ⟨_, rfl⟩
                          have hv0 : 0 ≤ v ∧ v ≤ 1 := by omega
                          have hnx := LI_next l a b k j
                          rw [hpn] at hnx
                          have hpj : p + j < N := by omega
                          have hpj' : (p : Int) + j < N := by omega
                          have hjm' : (j : Int) < 1 := by rw [HMN.out] at hj1; omega
                          have g1 : decide ((N : Int) ≤ (p : Int) + j) = false := by simp; omega
                          have q1 := (kp.cell k).trans (memC_get (row_get l a b k hk1))
                          rw [HPL.out] at q1
                          have q24 := (hat.kl.cell 24).trans HDN.out.2.2.2.2
                          have HX := Lib.hid (And.intro hat (And.intro kp (And.intro hv hnx)))
                          have HQ := Lib.hid q1
                          clear hat kp hv hnx hcnt hlt hpn
                          go_wp2_with fail
                          go_quiet (fail)
                          have hat := HX.out.1.drewN nq
                          have kp := HX.out.2.1
                          have q1' := (Bk.cell (w := wr.drewN nq) kp k).trans (memC_get (row_get l a b k hk1))
                          rw [HPL.out] at q1'
                          clear q1 q24
                          have qc := hat.cell hpj HX.out.2.2.1
                          have qf := hat.km.free (p + j)
                          have ql := hat.km.lt
                          have hat2 := hat.hit hgk hgm hpj (v := v + 1) (by rw [HX.out.2.2.1])
                          have kp2 := Bk.other (w := wr.drewN nq) kp (p := ⟨gm, p + j, none⟩) (fun e => hgp e.symm) (.int .i64 (v + 1))
                          rw [← HX.out.2.2.2] at hat2
                          have HY := Lib.hid (And.intro hat2 kp2)
                          clear hat kp hat2 kp2 HX HQ
                          generalize wr.drewN nq = w20 at *
                          go_wp2
                          go_roundw
                          case rel => exact ⟨j + 1, mem3.set (p + j) (v + 1), by omega, by go_num, HY.out.1, HY.out.2⟩
                          case measure => simp [intOf]; omega
                        · have hje : j = manyN k b := by omega
                          have hge : decide ((j : Int) < 1) = false := by rw [HMN.out] at hje; simp; omega
                          rw [hje, LI_end l a b k hsk] at hat
                          have HX := Lib.hid (And.intro hat kp)
                          clear hat kp hje hj1 hjm
                          go_wp2
                          go_roundw
                          case rel => exact ⟨k + 1, mem3, by omega, by go_num, HX.out.1, HX.out.2⟩
                          case measure => simp [intOf]; omega
            · have hke : k = 14 := by omega
              subst hke
              rw [LK_end] at hat
              have HX := Lib.hid hat
              clear hat kp hk1 hk14
              go_wp2
              go_roundw
              case rel => exact ⟨b + 1, mem2, by omega, by go_num, HX.out⟩
              case measure => simp [intOf]; omega
        · have hbe : b = 16 := by omega
          subst hbe
          rw [LB_end] at hat
          have HX := Lib.hid hat
          clear hat hb1 hb16
          go_wp2
          go_roundw
          case rel => exact ⟨a + 1, mem1, by omega, by go_num, HX.out⟩
          case measure => simp [intOf]; omega
    · have hae : a = 64 := by omega
      subst hae
      clear ha ha64
      have q24 := (HAT.out.kl.cell 24).trans HDN.out.2.2.2.2
      go_wp2_with fail
      go_loop [17, 171, 172, 173, 174, 175, 176, 177, 178, 179, 180, 181] (fun i _ _ _ _ _ _ _ _ _ _ _ => R6 N i) (fun i _ _ _ _ _ _ _ _ _ _ _ => N - (intOf i).toNat)
      case atStart => exact ⟨0, Nat.zero_le _, rfl⟩
      case round =>
        obtain ⟨j, hj, rfl⟩ := hrel
        by_cases hjN : j < N
        · have i1 : (j : Int) < N := by omega
          have hone := hit_one HF.out.1 HF.out.2.1 (x := j) (by rw [HF.out.2.2.2.2]; omega)
          have qc := HAT.out.cell hjN (v := 1) (by rw [hone]; rfl)
          clear hone
          go_wp2
          go_round
          case rel => exact ⟨j + 1, by omega, by go_num⟩
          case measure => simp [intOf]; omega
        · have hje : j = N := by omega
          subst hje
          have i1 : decide ((j : Int) < j) = false := by simp
          go_wp2
          go_ret
          exact ⟨rfl, HAT.out.bl⟩
end Go.Proofs.Ythaieabhlodajaa
