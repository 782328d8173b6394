/- The walk of RingMoves. -/
import Derived.Test.YtekibkfpamfmoaaMov
import Derived.Test.YtekibkfpamfmoaaRefD
import Derived.Test.YtekibkfpamfmoaaInts
import Derived.Test.YtekibkfpamfmoaaOpen
namespace Go.Proofs.Ytekibkfpamfmoaa
open Go.RowKit
attribute [local go_sem ↓] Go.wp_at_zero Go.wp_at_succ

theorem slint_own {w : World} {base : Nat} {A : Option Addr} {c : Nat} {zs : List Int} (h : w.ownsRow base 3 1 (.slice A zs.length c) zs.length (zs.map (Value.int .i64))) : SlInt w w.heap.size A zs := by
  intro hl
  obtain ⟨g, cap', hv, _, hg⟩ := World.ownsRow.form h hl
  injection hv with h1 _ h3
  subst h1 h3
  refine ⟨g, 0, rfl, hg, fun k r hr => ?_⟩
  have hk : k < zs.length := (List.getElem?_eq_some_iff.1 hr).1
  rw [Nat.zero_add]
  refine (World.ownsRow.cellAt h k (by omega)).trans ?_
  simp [hr]
theorem Laid.get {mem row : List Int} {P : Nat → Nat} {i : Nat} (h : Laid mem row P i) (j : Nat) (hj : j < i) : mem[P j]? = row[j]? := h j hj
theorem dec_self (row : List Int) : decide (row = row) = true := by simp
def L1Rel (w : World) (l : Ly) (g gm N d : Nat) (t b k : Int) (row : List Int) (P : Nat → Nat) (i : Value) (wr : World) : Prop :=
  ∃ (j : Nat) (mem : List Int), j ≤ row.length ∧ i = .int .i64 j ∧ Below w.heap.size w wr ∧ Bk wr g 26 (lyC l) ∧ Bk wr gm 3 (memC mem) ∧ MemIs mem N d t b k ∧ Laid mem row P j
def L2Rel (w : World) (l : Ly) (g gm N d : Nat) (t b k : Int) (row : List Int) (P Q : Nat → Nat) (base : Nat) (A : Option Addr) (c : Nat) (ps : List (Int × Int)) (i : Value) (wr : World) : Prop :=
  ∃ (j : Nat) (mem : List Int), j ≤ row.length ∧ i = .int .i64 j ∧ Below w.heap.size w wr ∧ Bk wr g 26 (lyC l) ∧ Bk wr gm 3 (memC mem) ∧ MemIs mem N d t b k ∧ Laid mem row P row.length ∧ Laid mem row Q j ∧ wr.ownsRow base 47 2 (.slice A row.length c) row.length (pairCells ps)
set_option maxRecDepth 100000 in
set_option maxHeartbeats 16000000 in
theorem moves_law (x y se r tp : Int) (A : Option Addr) (c : Nat) (row : List Int) (w : World) (x0 : 0 ≤ x) (x1 : x < 256) (y0 : 0 ≤ y) (y1 : y < 256) (s0 : 0 ≤ se) (s1 : se < 256) (r0 : 0 ≤ r) (r1 : r < 256) (t0 : 0 ≤ tp) (t1 : tp < 65536) (hrow : SlInt w w.heap.size A row) :
    Calls Try.prog 7 #[.int .u8 x, .int .u8 y, .int .u8 se, .int .u8 r, .int .u16 tp, .slice A row.length c] w (BoolBelow true w) := by
  have a0 : 0 ≤ x % 3 := Int.emod_nonneg _ (by omega)
  have a1 : x % 3 < 3 := Int.emod_lt_of_pos _ (by omega)
  have a2 : 0 ≤ y % 64 := Int.emod_nonneg _ (by omega)
  have a3 : y % 64 < 64 := Int.emod_lt_of_pos _ (by omega)
  have b0 : 0 ≤ se % (1 + x % 3) := Int.emod_nonneg _ (by omega)
  have b1 : se % (1 + x % 3) < 1 + x % 3 := Int.emod_lt_of_pos _ (by omega)
  have f := whereL_fit (1 + x % 3) (1 + y % 64) (by omega) (by omega) (by omega) (by omega)
  have hok := lyOk_of _ (cfOf_can (1 + x % 3) (1 + y % 64) (by omega) (by omega) (by omega) (by omega))
  have hdq := hok.ring
  have hb := hok.b0
  have hn := ringsN_in (1 + y % 64)
  have hq0 : 0 ≤ r % ringsN (1 + y % 64) := Int.emod_nonneg _ (by omega)
  have hq1 : r % ringsN (1 + y % 64) < ringsN (1 + y % 64) := Int.emod_lt_of_pos _ (by omega)
  obtain ⟨k, hk⟩ : ∃ k, r % ringsN (1 + y % 64) = k := ⟨_, rfl⟩
  rw [hk] at hq0 hq1
  obtain ⟨s, hs⟩ : ∃ s, se % (1 + x % 3) = s := ⟨_, rfl⟩
  rw [hs] at b0 b1
  obtain ⟨hr1, P, hP, hPi⟩ := ring_fn (1 + x % 3) (1 + y % 64) s k tp (by omega) (by omega) (by omega) (by omega) hq0 hq1 t0 b0 b1
  have hnext : k + 1 < ringsN (1 + y % 64) → ringAt (whereL (1 + x % 3) (1 + y % 64)) s (k + 1) ≠ -1 ∧ ∃ Q : Nat → Nat, (∀ j : Nat, placeAt (whereL (1 + x % 3) (1 + y % 64)) s (k + 1) (tp + j) = Q j ∧ ringAt (whereL (1 + x % 3) (1 + y % 64)) s (k + 1) + (tp + j) % sizeN (k + 1) = Q j ∧ (whereL (1 + x % 3) (1 + y % 64)).ring ≤ Q j ∧ (Q j : Int) < (whereL (1 + x % 3) (1 + y % 64)).task) ∧
      (∀ i j : Nat, (i : Int) < sizeN (k + 1) → (j : Int) < sizeN (k + 1) → Q i = Q j → i = j) ∧ ∀ i j, P i ≠ Q j := fun h => by
    obtain ⟨hr2, Q, hQ, hQi⟩ := ring_fn (1 + x % 3) (1 + y % 64) s (k + 1) tp (by omega) (by omega) (by omega) (by omega) (by omega) h t0 b0 b1
    exact ⟨hr2, Q, hQ, hQi, ring_two (1 + x % 3) (1 + y % 64) s k tp (by omega) (by omega) (by omega) (by omega) P Q (fun j => (hP j).1) (fun j => (hQ j).1)⟩
  have hno : ¬ k + 1 < ringsN (1 + y % 64) → ringAt (whereL (1 + x % 3) (1 + y % 64)) s (k + 1) = -1 := fun h => by
    unfold ringAt
    rw [if_neg]
    rintro ⟨_, h', _⟩
    exact h h'
  have hsz2 : sizeN k ≤ sizeN (k + 1) := by
    have h : k = 0 ∨ k = 1 ∨ k = 2 ∨ k = 3 ∨ k = 4 := by omega
    rcases h with rfl | rfl | rfl | rfl | rfl <;> decide
  have hszk := sizeN_in k
  obtain ⟨l, hl⟩ : ∃ l, l = whereL (1 + x % 3) (1 + y % 64) := ⟨_, rfl⟩
  have hlo : lyOf (cfOf (1 + x % 3) (1 + y % 64)) = l := hl.symm
  rw [hlo] at hdq hb
  have hls : l.c.seats = 1 + x % 3 := by rw [hl]; rfl
  have hlt : l.c.tasks = 1 + y % 64 := by rw [hl]; rfl
  have hcs : (cfOf (1 + x % 3) (1 + y % 64)).seats = 1 + x % 3 := rfl
  rw [hcs] at hdq
  rw [← hl] at f hr1 hP hnext hno
  have hrn : ringsN l.c.tasks = ringsN (1 + y % 64) := by rw [hlt]
  rw [← hrn] at hn hq1 hnext hno hk
  have ft1 := f.t1
  have ft2 := f.t2
  have fs1 : s < l.c.seats := by omega
  obtain ⟨N, hN⟩ : ∃ N : Nat, l.size = N := ⟨l.size.toNat, by omega⟩
  obtain ⟨d, hd⟩ : ∃ d : Nat, l.deque + s * 3 = d := ⟨(l.deque + s * 3).toNat, by omega⟩
  have hdN : d + 2 < N := by omega
  have hPb : ∀ j, d + 2 < P j ∧ P j < N := fun j => by
    have := hP j
    omega
  have hd0 : 0 ≤ l.deque := by omega
  have hd1 : l.deque ≤ 1000000 := by omega
  have hN1 : N ≤ 1000000 := by omega
  have HL := Lib.hid hl
  have HF := Lib.hid f
  have HD := Lib.hid (And.intro hd hN)
  have HP := Lib.hid (And.intro hP (And.intro hPi (And.intro hPb hr1)))
  have hnx : k + 1 < ringsN l.c.tasks → ringAt l s (k + 1) ≠ -1 ∧ ∃ Q : Nat → Nat, (∀ j : Nat, placeAt l s (k + 1) (tp + j) = Q j ∧ ringAt l s (k + 1) + (tp + j) % sizeN (k + 1) = Q j ∧ d + 2 < Q j ∧ Q j < N) ∧
      (∀ i j : Nat, (i : Int) < sizeN (k + 1) → (j : Int) < sizeN (k + 1) → Q i = Q j → i = j) ∧ ∀ i j, P i ≠ Q j := fun h => by
    obtain ⟨h1, Q, h2, h3, h4⟩ := hnext h
    refine ⟨h1, Q, fun j => ?_, h3, h4⟩
    have := h2 j
    exact ⟨this.1, this.2.1, by omega, by omega⟩
  have HQ := Lib.hid (And.intro hnx hno)
  have HR := Lib.hid (And.intro hs hk)
  have HW := Lib.hid hrow
  have hmx : max 1 (ringsN l.c.tasks) = ringsN l.c.tasks := by omega
  clear hl f hd hN hP hPi hPb hr1 hnx hno hnext hok hdq hb hls hlt hlo hcs hrn hrow
  have HRN : Hid (ringsN l.c.tasks = ringsN l.c.tasks) := Lib.hid rfl
  go_enter Try.func7, Try.ntmps7
  go_wp2_with fail
  (with_reducible refine (awake_any _).mono ?_)
  rintro e w1 ⟨rfl, hbl⟩
  go_wp2_with fail
  (with_reducible refine (where_any x y _ x0 x1 y0 y1).mono ?_)
  rintro e w2 ⟨rfl, hb⟩
  rw [← HL.out]
  replace hbl := below_tr hbl hb
  clear hb
  have k0 := Bk.made w2 26 (lyC l)
  replace hbl := below_al hbl (.cells (lyC l) 26)
  go_upto_region 3 with (refine wpList_store_new rfl 26 (.tmp 14) (.tmp 28) rfl rfl w2.heap.size _ _ (lyC l) rfl rfl rfl rfl (by kernel_rfl) rfl (by simp [Value.oneCell']) ?_; (generalize w2.alloc (.cells (lyC l) 26) = w3 at *))
  have hg0 := Nat.le_of_lt_succ (Nat.lt_succ_of_le (Nat.le_refl w2.heap.size))
  generalize hg : w2.heap.size = g at *
  clear hg0
  have hs' := HR.out.1
  go_wp2_with (refine wpList_load_row rfl 26 (.tmp 14) rfl g rfl 26 (lyC l) (0, 0) _ k0 Try.underlying26 rfl (by kernel_rfl) ?_)
  (with_reducible refine (rings_any l _ ft1 ft2).mono ?_)
  rintro e w4 ⟨rfl, hb⟩
  replace k0 := k0.keep hb
  replace hbl := below_tr hbl hb
  clear hb hs'
  have hk' := HR.out.2
  have hne : ringsN l.c.tasks ≠ 0 := by omega
  have q24 := k0.cell 24
  simp at q24
  rw [HD.out.2] at q24
  have g0 : decide ((N : Int) < 1) = false := by simp; omega
  have hmax : ∀ (w : World) (ts : Array TypeId) (t : TypeId), (Builtin.max_ ts t #[.int .i64 1, .int .i64 (ringsN l.c.tasks)]).run Try.prog w = .ok (.int .i64 (ringsN l.c.tasks)) w := fun w ts t => by
    rw [run_max_int2]
    congr 2
    split <;> omega
  by_cases h70 : (70 : Int) < row.length
  · have g1 : decide ((70 : Int) < row.length) = true := by simpa using h70
    go_wp2
    go_ret
    exact ⟨rfl, hbl⟩
  have g1 : decide ((70 : Int) < row.length) = false := by simpa using h70
  go_wp2_with fail
  (with_reducible refine (size_any k _).mono ?_)
  rintro e w5 ⟨rfl, rfl⟩
  by_cases hsk : sizeN k < row.length
  · have g2 : decide (sizeN k < row.length) = true := by simpa using hsk
    go_wp2
    go_ret
    exact ⟨rfl, hbl⟩
  have g2 : decide (sizeN k < row.length) = false := by simpa using hsk
  by_cases h5 : (5000 : Int) < N
  · have g3 : decide ((5000 : Int) < N) = true := by simpa using h5
    go_wp2
    go_ret
    exact ⟨rfl, hbl⟩
  have g3 : decide ((5000 : Int) < N) = false := by simpa using h5
  clear hk' hne
  go_upto_region 8 with (refine wpList_make_ints rfl _ _ rfl N rfl rfl hN1 ?_)
  clear q24 g0 g1 g2 g3 h70 h5
  have hgk0 := k0.lt
  have km := Bk.made w5 3 (memC (List.replicate N 0))
  replace k0 := k0.alloc (.cells (memC (List.replicate N 0)) 3)
  have hgm := hbl.size
  replace hbl := below_al hbl (.cells (memC (List.replicate N 0)) 3)
  generalize w5.alloc (.cells (memC (List.replicate N 0)) 3) = w6 at *
  have hne2 := k0.lt
  have hgk : g ≠ w5.heap.size := by omega
  generalize w5.heap.size = gm at *
  go_wp2_with (refine wpList_load_row rfl 26 (.tmp 14) rfl g rfl 26 (lyC l) (0, 0) _ k0 Try.underlying26 rfl (by kernel_rfl) ?_)
  (with_reducible refine (deque_in l s 0 0 d _ rfl b0 fs1 HF.out.s2 (by omega) hd0 hd1 HD.out.1).mono ?_)
  rintro e w7 ⟨rfl, hb⟩
  replace k0 := k0.keep hb
  replace km := km.keep hb
  replace hbl := below_tr hbl hb
  clear hb
  rw [Nat.add_zero]
  have g1 : decide ((d : Int) < 0) = false := by simp
  have g2 : decide ((N : Int) ≤ (d : Int) + 2) = false := by simp; omega
  have qa := (km.cell d).trans (memC_get (x := 0) (by rw [List.getElem?_replicate, if_pos (by omega)]))
  have fa := km.free d
  have ia : (d : Int) < N := by omega
  go_upto_region 13 with fail
  have gm6 := km.lt
  replace km := km.stored d (.int .i64 tp)
  rw [memC_set] at km
  replace k0 := k0.other (p := ⟨gm, d, none⟩) hgk (.int .i64 tp)
  replace hbl := below_set hbl (p := ⟨gm, d, none⟩) hgm (.int .i64 tp)
  generalize w7.setCell ⟨gm, d, none⟩ (.int .i64 tp) = w8 at *
  clear qa fa g1 g2
  have qa := (km.cell (d + 1)).trans (memC_get (x := 0) (by rw [List.getElem?_set_ne (by omega), List.getElem?_replicate, if_pos (by omega)]))
  have fa := km.free (d + 1)
  have ia' : (d : Int) + 1 < N := by omega
  go_upto_region 14 with fail
  replace km := km.stored (d + 1) (.int .i64 (tp + row.length))
  rw [memC_set] at km
  replace k0 := k0.other (p := ⟨gm, d + 1, none⟩) hgk (.int .i64 (tp + row.length))
  replace hbl := below_set hbl (p := ⟨gm, d + 1, none⟩) hgm (.int .i64 (tp + row.length))
  generalize w8.setCell ⟨gm, d + 1, none⟩ (.int .i64 (tp + row.length)) = w9 at *
  clear qa fa ia'
  have qa := (km.cell (d + 2)).trans (memC_get (x := 0) (by rw [List.getElem?_set_ne (by omega), List.getElem?_set_ne (by omega), List.getElem?_replicate, if_pos (by omega)]))
  have fa := km.free (d + 2)
  have ia' : (d : Int) + 2 < N := by omega
  go_upto_region 15 with fail
  replace km := km.stored (d + 2) (.int .i64 k)
  rw [memC_set] at km
  replace k0 := k0.other (p := ⟨gm, d + 2, none⟩) hgk (.int .i64 k)
  replace hbl := below_set hbl (p := ⟨gm, d + 2, none⟩) hgm (.int .i64 k)
  generalize w9.setCell ⟨gm, d + 2, none⟩ (.int .i64 k) = w10 at *
  clear qa fa ia'
  have hmi := MemIs.made N d tp (tp + row.length) k hdN
  generalize (((List.replicate N 0).set d tp).set (d + 1) (tp + row.length)).set (d + 2) k = mem0 at *
  have HM := Lib.hid hmi
  clear hmi
  have hn70 : (row.length : Int) ≤ 1000000 := by omega
  go_wp2_with fail
  go_loopw [20, 21, 97, 98, 99, 100, 101, 102, 103, 104, 105, 106, 107, 108, 109, 110, 111, 112, 113, 114, 115, 116, 117, 118, 119, 120, 121, 122, 123, 124] (fun i _ _ _ _ _ _ _ _ _ _ _ _ _ _ _ _ _ _ _ _ _ _ _ _ _ _ _ _ _ wr => L1Rel w l g gm N d tp (tp + row.length) k row P i wr) (fun i _ _ _ _ _ _ _ _ _ _ _ _ _ _ _ _ _ _ _ _ _ _ _ _ _ _ _ _ _ _ => row.length - (intOf i).toNat)
  case atStart => exact ⟨0, mem0, Nat.zero_le _, rfl, hbl, k0, km, HM.out, Laid.none _ _ _⟩
  case round =>
    clear hbl k0 km HM
    obtain ⟨j, mem, hj, rfl, hbl, k0, km, hmi, hla⟩ := hrel
    by_cases hlt : j < row.length
    · obtain ⟨b, o, hA, hbb, hcc⟩ := (HW.out.below hbl) (by omega)
      obtain ⟨z, hz⟩ : ∃ z, row[j]? = some z := ⟨_, List.getElem?_eq_getElem hlt⟩
      have i1 : (j : Int) < row.length := by omega
      have HX := Lib.hid (And.intro hmi (And.intro hla (And.intro hz (hcc j z hz))))
      subst hA
      clear hmi hla hz hcc
      go_wp2_with (refine wpList_load_row rfl 26 (.tmp 14) rfl g rfl 26 (lyC l) (0, 0) _ k0 Try.underlying26 rfl (by kernel_rfl) ?_)
      (with_reducible refine (place_any l s k (tp + j) _ HF.out).mono ?_)
      rintro e w11 ⟨rfl, hb⟩
      rw [(HP.out.1 j).1]
      have hbk := (HP.out.2.2.1 j)
      have q1 := (bcellA hb (Nat.lt_of_lt_of_le hbb hbl.size)).trans HX.out.2.2.2
      replace k0 := k0.keep hb
      replace km := km.keep hb
      replace hbl := below_tr hbl hb
      clear hb
      have hpl : P j < mem.length := by rw [HX.out.1.len]; exact hbk.2
      obtain ⟨old, ho⟩ : ∃ old, mem[P j]? = some old := ⟨_, List.getElem?_eq_getElem hpl⟩
      have q2 := (km.cell (P j)).trans (memC_get ho)
      have f2 := km.free (P j)
      have gm2 := km.lt
      have g1 : decide (((P j : Nat) : Int) < 0) = false := by simp
      have g2 : decide ((N : Int) ≤ ((P j : Nat) : Int)) = false := by simp; omega
      have g3 : ((P j : Nat) : Int) < N := by omega
      have hls := Laid.snoc HX.out.2.1 hlt HX.out.2.2.1 hpl (fun a b ha hb he => HP.out.2.1 a b (by omega) (by omega) he)
      have hms := HX.out.1.set hbk.1 z
      have hks := km.stored (P j) (.int .i64 z)
      rw [memC_set] at hks
      have HY := Lib.hid (And.intro hbl (And.intro k0 (And.intro hks (And.intro hms hls))))
      clear hbl k0 km hks hms hls ho
      generalize P j = pj at *
      go_wp2
      go_roundw
      case rel => exact ⟨j + 1, mem.set pj z, by omega, by go_num, below_set HY.out.1 hgm _, HY.out.2.1.other hgk _, HY.out.2.2.1, HY.out.2.2.2.1, HY.out.2.2.2.2⟩
      case measure => simp [intOf]; omega
    · obtain rfl : j = row.length := by omega
      have hgl : decide ((row.length : Int) < row.length) = false := by simp
      have HX := Lib.hid (And.intro hmi hla)
      clear hmi hla
      go_wp2_with (refine wpList_load_row rfl 26 (.tmp 14) rfl g rfl 26 (lyC l) (0, 0) _ k0 Try.underlying26 rfl (by kernel_rfl) ?_)
      (with_reducible refine (row_any l s k tp d N gm P mem row _ HF.out b0 fs1 hd0 hd1 HD.out.1 km HX.out.1.len hN1 hdN HX.out.1.c0 HX.out.1.c1 HX.out.1.c2 HP.out.2.2.2 t0 (by omega) (by omega) (fun j hj => ⟨(HP.out.1 j).2.1, (HP.out.2.2.1 j).2, Laid.get HX.out.2 j hj⟩)).mono ?_)
      rintro e w12 ⟨Aw, cw, rfl, hown, hb⟩
      have hsw := slint_own hown
      replace k0 := k0.keep hb
      replace km := km.keep hb
      replace hbl := below_tr hbl hb
      clear hb hown
      have hrw := (HW.out.below hbl).more hbl.size
      go_wp2_with fail
      (with_reducible refine (ints_any Aw A cw c row row _ hsw hrw (by omega) (by omega)).mono ?_)
      rintro e w13 ⟨rfl, hb⟩
      rw [dec_self]
      replace k0 := k0.keep hb
      replace km := km.keep hb
      replace hbl := below_tr hbl hb
      clear hb hsw hrw
      go_wp2_with (refine wpList_load_row rfl 26 (.tmp 14) rfl g rfl 26 (lyC l) (0, 0) _ k0 Try.underlying26 rfl (by kernel_rfl) ?_)
      (with_reducible refine (moves_any l s k tp (tp + row.length) _ HF.out (by omega) (by omega)).mono ?_)
      have hm13 := km.lt
      rintro e w14 ⟨Am, cm, rfl, hpo, hb⟩
      replace k0 := k0.keep hb
      replace km := km.keep hb
      replace hbl := below_tr hbl hb
      clear hb
      have hfit : fitsB k tp (tp + row.length) = true := by simp [fitsB]; omega
      by_cases hkn : k + 1 < ringsN l.c.tasks
      · obtain ⟨hr2, Q, hQ, hQi, hPQ⟩ := HQ.out.1 hkn
        obtain ⟨ps, hps⟩ : ∃ ps, ps = (List.range row.length).map (fun j => ((P j : Int), (Q j : Int))) := ⟨_, rfl⟩
        have hmv : movesOf l s k tp (tp + row.length) = ps := by
          unfold movesOf
          rw [if_pos ⟨HP.out.2.2.2, hfit, hr2⟩, hps]
          have e1 : (tp + (row.length : Int) - tp).toNat = row.length := by omega
          rw [e1]
          refine List.map_congr_left fun j _ => ?_
          unfold moveAt
          rw [(HP.out.1 j).1, (hQ j).1]
        rw [hmv] at hpo ⊢
        have hpl : ps.length = row.length := by rw [hps]; simp
        have hgt : ∀ j : Nat, j < row.length → ps[j]? = some ((P j : Int), (Q j : Int)) := fun j hj => by rw [hps]; simp [hj]
        unfold OwnPairs at hpo
        rw [hpl] at hpo ⊢
        have HG := Lib.hid hgt
        have HPL := Lib.hid hpl
        have HQ2 := Lib.hid (And.intro hQ (And.intro hQi (And.intro hPQ hr2)))
        have HO := Lib.hid hpo
        clear hps hmv hpl hgt hQ hQi hPQ hpo hr2 hfit
        go_wp2_with (refine wpList_load_row rfl 26 (.tmp 14) rfl g rfl 26 (lyC l) (0, 0) _ k0 Try.underlying26 rfl (by kernel_rfl) ?_)
        (with_reducible refine (rings_any l _ ft1 ft2).mono ?_)
        rintro e w15 ⟨rfl, hb⟩
        replace k0 := k0.keep hb
        replace km := km.keep hb
        replace HO := Lib.hid (own_keepR HO.out hb)
        replace hbl := below_tr hbl hb
        clear hb
        have g1 : decide (ringsN l.c.tasks ≤ k + 1) = false := by simp; omega
        have g2 : ((row.length : Int) != row.length) = false := by simp
        go_wp2_with fail
        go_loopw [24, 159, 160, 161, 162, 163, 164, 165, 166, 167, 168, 169, 170, 171, 172, 173, 174, 175, 176, 177, 178, 179, 180, 181, 182, 183, 184, 185, 186, 187, 188, 189, 190, 191, 192, 193, 194, 195, 196, 197, 198, 199, 200, 201, 202, 203, 204, 205, 206, 207, 208, 209, 210, 211, 212, 213] (fun i _ _ _ _ _ _ _ _ _ _ _ _ _ _ _ _ _ _ _ _ _ _ _ _ _ _ _ _ _ _ _ _ _ _ _ _ _ _ _ _ _ _ _ _ _ _ _ _ _ _ _ _ _ _ _ wr => L2Rel w l g gm N d tp (tp + row.length) k row P Q w13.heap.size Am cm ps i wr) (fun i _ _ _ _ _ _ _ _ _ _ _ _ _ _ _ _ _ _ _ _ _ _ _ _ _ _ _ _ _ _ _ _ _ _ _ _ _ _ _ _ _ _ _ _ _ _ _ _ _ _ _ _ _ _ _ _ => row.length - (intOf i).toNat)
        case atStart => exact ⟨0, mem, Nat.zero_le _, rfl, hbl, k0, km, HX.out.1, HX.out.2, Laid.none _ _ _, HO.out⟩
        case round =>
          clear hbl k0 km HX HO mem
          obtain ⟨j, mem, hj, rfl, hbl, k0, km, hmi, hla, hlb, hown⟩ := hrel
          by_cases hlt : j < row.length
          · obtain ⟨gv, cv, hv, hv1, hv2⟩ := World.ownsRow.form hown (by omega)
            injection hv with hv3 hv4 hv5
            subst hv3 hv5
            clear hv4
            obtain ⟨z, hz⟩ : ∃ z, row[j]? = some z := ⟨_, List.getElem?_eq_getElem hlt⟩
            obtain ⟨q1, q2⟩ := pairCells_get ps j _ (HG.out j hlt)
            have hpsl := HPL.out
            have c1 := (World.ownsRow.cellAt hown (j * 2) (by omega)).trans q1
            have c2 := (World.ownsRow.cellAt hown (j * 2 + 1) (by omega)).trans q2
            dsimp only at c1 c2
            have p1 := HP.out.2.2.1 j
            have p2 := HQ2.out.1 j
            have hql : Q j < mem.length := by rw [hmi.len]; exact p2.2.2.2
            obtain ⟨old, ho⟩ : ∃ old, mem[Q j]? = some old := ⟨_, List.getElem?_eq_getElem hql⟩
            have c3 := (km.cell (P j)).trans (memC_get (x := z) (by rw [Laid.get hla j hlt, hz]))
            have c4 := (km.cell (Q j)).trans (memC_get ho)
            have c5 := km.free (Q j)
            have hms := hmi.set p2.2.2.1 z
            have hks := km.stored (Q j) (.int .i64 z)
            rw [memC_set] at hks
            have hl1 := hla.other (q := Q j) (x := z) (fun i => HQ2.out.2.2.1 i j)
            have hl2 := Laid.snoc hlb hlt hz hql (fun a b ha hb he => HQ2.out.2.1 a b (by omega) (by omega) he)
            have hne : P j ≠ Q j := HQ2.out.2.2.1 j j
            have hgv : gm < gv := by omega
            have ho2 := ownsRow_setCell_below hown (a := ⟨gm, Q j, none⟩) hm13 (.int .i64 z)
            have p1' : ((P j : Nat) : Int) < N := by omega
            have p2' : ((Q j : Nat) : Int) < N := by omega
            have HY := Lib.hid (And.intro hbl (And.intro k0 (And.intro hks (And.intro hms (And.intro hl1 (And.intro hl2 ho2))))))
            have i1 : (j : Int) < row.length := by omega
            have gmw := km.lt
            clear hbl k0 km hks hms hl1 hl2 ho2 ho hown hz q1 q2 hmi hla hlb hv1 hpsl p1 p2 hql
            generalize P j = pj at *
            generalize Q j = qj at *
            have g3 : decide (((pj : Nat) : Int) < 0) = false := by simp
            have g4 : decide ((N : Int) ≤ ((pj : Nat) : Int)) = false := by simp; omega
            have g5 : decide (((qj : Nat) : Int) < 0) = false := by simp
            have g6 : decide ((N : Int) ≤ ((qj : Nat) : Int)) = false := by simp; omega
            go_wp2_with fail
            have hS : wr.drew.cell? ⟨gv, j * 2, none⟩ = some (.int .i64 (pj : Nat)) ∧ wr.drew.cell? ⟨gv, j * 2 + 1, none⟩ = some (.int .i64 (qj : Nat)) ∧ wr.drew.cell? ⟨gm, pj, none⟩ = some (.int .i64 z) := ⟨c1, c2, c3⟩
            have hd4 : wr.drew.cell? ⟨gm, qj, none⟩ = some (.int .i64 old) := c4
            have hd5 : wr.drew.frozen? ⟨gm, qj, none⟩ = false := c5
            have h2 : (wr.drew.setCell ⟨gm, qj, none⟩ (.int .i64 z)).cell? ⟨gv, j * 2, none⟩ = some (.int .i64 (pj : Nat)) := (World.cell?_setCell_other _ _ _ _ (fun e => by injection e; omega)).trans c1
            have h3 : (wr.drew.setCell ⟨gm, qj, none⟩ (.int .i64 z)).cell? ⟨gv, j * 2 + 1, none⟩ = some (.int .i64 (qj : Nat)) := (World.cell?_setCell_other _ _ _ _ (fun e => by injection e; omega)).trans c2
            have h4 : (wr.drew.setCell ⟨gm, qj, none⟩ (.int .i64 z)).cell? ⟨gm, pj, none⟩ = some (.int .i64 z) := (World.cell?_setCell_other _ _ _ _ (fun e => by injection e; omega)).trans c3
            have HS2 := Lib.hid (And.intro h2 (And.intro h3 h4))
            clear h2 h3 h4 c1 c2 c3 c4 c5
            refine wp_region_held_drew (S := fun w' => w'.cell? ⟨gv, j * 2, none⟩ = some (.int .i64 (pj : Nat)) ∧ w'.cell? ⟨gv, j * 2 + 1, none⟩ = some (.int .i64 (qj : Nat)) ∧ w'.cell? ⟨gm, pj, none⟩ = some (.int .i64 z)) (by kernel_rfl) hS (fun hHeld => ?_)
            replace HY := Lib.hid (And.intro HY.out.1.drew (And.intro HY.out.2.1.drew (And.intro (show Bk (wr.drew.setCell ⟨gm, qj, none⟩ (.int .i64 z)) gm 3 (memC (mem.set qj z)) from HY.out.2.2.1) (And.intro HY.out.2.2.2.1 (And.intro HY.out.2.2.2.2.1 (And.intro HY.out.2.2.2.2.2.1 (show (wr.drew.setCell ⟨gm, qj, none⟩ (.int .i64 z)).ownsRow _ _ _ _ _ _ from HY.out.2.2.2.2.2.2)))))))
            generalize wr.drew = wd at *
            clear hHeld
            refine wpAnyH_take (i := 0) (oi := _) (v := .slice (some ⟨gm, 0, none⟩) N N) rfl (by kernel_rfl) (by kernel_rfl) (by kernel_rfl) (fun _ _ _ h => h) (Or.inl ⟨by rfl, ?_⟩) hS ?_
            · intro w' hSw
              obtain ⟨s1, s2, s3⟩ := hSw
              (try simp only [List.getElem_toArray, List.getElem_cons_zero])
              go_simp
            (try simp only [List.getElem_toArray, List.getElem_cons_zero, Act.put, List.setIfInBounds_toArray, List.set_cons_zero, List.set_cons_succ])
            refine wpAnyH_take (i := 1) (oi := _) (v := .slice (some ⟨gv, 0, none⟩) row.length cm) rfl (by kernel_rfl) (by kernel_rfl) (by kernel_rfl) (fun _ _ _ h => h) (Or.inl ⟨by rfl, ?_⟩) hS ?_
            · intro w' hSw
              obtain ⟨s1, s2, s3⟩ := hSw
              (try simp only [List.getElem_toArray, List.getElem_cons_succ, List.getElem_cons_zero])
              go_simp
            (try simp only [List.getElem_toArray, List.getElem_cons_succ, List.getElem_cons_zero, Act.put, List.setIfInBounds_toArray, List.set_cons_zero, List.set_cons_succ])
            refine wpAnyH_take (i := 2) (oi := _) (v := .int .i64 j) rfl (by kernel_rfl) (by kernel_rfl) (by kernel_rfl) (fun _ _ _ h => h) (Or.inl ⟨by rfl, ?_⟩) hS ?_
            · intro w' hSw
              obtain ⟨s1, s2, s3⟩ := hSw
              (try simp only [List.getElem_toArray, List.getElem_cons_succ, List.getElem_cons_zero])
              go_simp
            (try simp only [List.getElem_toArray, List.getElem_cons_succ, List.getElem_cons_zero, Act.put, List.setIfInBounds_toArray, List.set_cons_zero, List.set_cons_succ])
            refine wpAnyH_take (i := 3) (oi := _) (v := .pointer (some ⟨gv, j * 2, none⟩)) rfl (by kernel_rfl) (by kernel_rfl) (by kernel_rfl) (fun _ _ _ h => h) (Or.inl ⟨by rfl, ?_⟩) hS ?_
            · intro w' hSw
              obtain ⟨s1, s2, s3⟩ := hSw
              (try simp only [List.getElem_toArray, List.getElem_cons_succ, List.getElem_cons_zero])
              go_simp
            (try simp only [List.getElem_toArray, List.getElem_cons_succ, List.getElem_cons_zero, Act.put, List.setIfInBounds_toArray, List.set_cons_zero, List.set_cons_succ])
            refine wpAnyH_take (i := 4) (oi := _) (v := .pointer (some ⟨gv, j * 2 + 1, none⟩)) rfl (by kernel_rfl) (by kernel_rfl) (by kernel_rfl) (fun _ _ _ h => h) (Or.inl ⟨by rfl, ?_⟩) hS ?_
            · intro w' hSw
              obtain ⟨s1, s2, s3⟩ := hSw
              (try simp only [List.getElem_toArray, List.getElem_cons_succ, List.getElem_cons_zero])
              go_simp
            (try simp only [List.getElem_toArray, List.getElem_cons_succ, List.getElem_cons_zero, Act.put, List.setIfInBounds_toArray, List.set_cons_zero, List.set_cons_succ])
            refine wpAnyH_take (i := 5) (oi := _) (v := .int .i64 (qj : Nat)) rfl (by kernel_rfl) (by kernel_rfl) (by kernel_rfl) (fun _ _ _ h => h) (Or.inl ⟨by rfl, ?_⟩) hS ?_
            · intro w' hSw
              obtain ⟨s1, s2, s3⟩ := hSw
              (try simp only [List.getElem_toArray, List.getElem_cons_succ, List.getElem_cons_zero])
              go_simp
            (try simp only [List.getElem_toArray, List.getElem_cons_succ, List.getElem_cons_zero, Act.put, List.setIfInBounds_toArray, List.set_cons_zero, List.set_cons_succ])
            refine wpAnyH_take (i := 6) (oi := _) (v := .slice (some ⟨gm, 0, none⟩) N N) rfl (by kernel_rfl) (by kernel_rfl) (by kernel_rfl) (fun _ _ _ h => h) (Or.inl ⟨by rfl, ?_⟩) hS ?_
            · intro w' hSw
              obtain ⟨s1, s2, s3⟩ := hSw
              (try simp only [List.getElem_toArray, List.getElem_cons_succ, List.getElem_cons_zero])
              go_simp
            (try simp only [List.getElem_toArray, List.getElem_cons_succ, List.getElem_cons_zero, Act.put, List.setIfInBounds_toArray, List.set_cons_zero, List.set_cons_succ])
            refine wpAnyH_take (i := 7) (oi := _) (v := .slice (some ⟨gv, 0, none⟩) row.length cm) rfl (by kernel_rfl) (by kernel_rfl) (by kernel_rfl) (fun _ _ _ h => h) (Or.inl ⟨by rfl, ?_⟩) hS ?_
            · intro w' hSw
              obtain ⟨s1, s2, s3⟩ := hSw
              (try simp only [List.getElem_toArray, List.getElem_cons_succ, List.getElem_cons_zero])
              go_simp
            (try simp only [List.getElem_toArray, List.getElem_cons_succ, List.getElem_cons_zero, Act.put, List.setIfInBounds_toArray, List.set_cons_zero, List.set_cons_succ])
            refine wpAnyH_take (i := 8) (oi := _) (v := .int .i64 j) rfl (by kernel_rfl) (by kernel_rfl) (by kernel_rfl) (fun _ _ _ h => h) (Or.inl ⟨by rfl, ?_⟩) hS ?_
            · intro w' hSw
              obtain ⟨s1, s2, s3⟩ := hSw
              (try simp only [List.getElem_toArray, List.getElem_cons_succ, List.getElem_cons_zero])
              go_simp
            (try simp only [List.getElem_toArray, List.getElem_cons_succ, List.getElem_cons_zero, Act.put, List.setIfInBounds_toArray, List.set_cons_zero, List.set_cons_succ])
            refine wpAnyH_take (i := 9) (oi := _) (v := .pointer (some ⟨gv, j * 2, none⟩)) rfl (by kernel_rfl) (by kernel_rfl) (by kernel_rfl) (fun _ _ _ h => h) (Or.inl ⟨by rfl, ?_⟩) hS ?_
            · intro w' hSw
              obtain ⟨s1, s2, s3⟩ := hSw
              (try simp only [List.getElem_toArray, List.getElem_cons_succ, List.getElem_cons_zero])
              go_simp
            (try simp only [List.getElem_toArray, List.getElem_cons_succ, List.getElem_cons_zero, Act.put, List.setIfInBounds_toArray, List.set_cons_zero, List.set_cons_succ])
            refine wpAnyH_take (i := 10) (oi := _) (v := .pointer (some ⟨gv, j * 2, none⟩)) rfl (by kernel_rfl) (by kernel_rfl) (by kernel_rfl) (fun _ _ _ h => h) (Or.inl ⟨by rfl, ?_⟩) hS ?_
            · intro w' hSw
              obtain ⟨s1, s2, s3⟩ := hSw
              (try simp only [List.getElem_toArray, List.getElem_cons_succ, List.getElem_cons_zero])
              go_simp
            (try simp only [List.getElem_toArray, List.getElem_cons_succ, List.getElem_cons_zero, Act.put, List.setIfInBounds_toArray, List.set_cons_zero, List.set_cons_succ])
            refine wpAnyH_take (i := 11) (oi := _) (v := .int .i64 (pj : Nat)) rfl (by kernel_rfl) (by kernel_rfl) (by kernel_rfl) (fun _ _ _ h => h) (Or.inl ⟨by rfl, ?_⟩) hS ?_
            · intro w' hSw
              obtain ⟨s1, s2, s3⟩ := hSw
              (try simp only [List.getElem_toArray, List.getElem_cons_succ, List.getElem_cons_zero])
              go_simp
            (try simp only [List.getElem_toArray, List.getElem_cons_succ, List.getElem_cons_zero, Act.put, List.setIfInBounds_toArray, List.set_cons_zero, List.set_cons_succ])
            refine wpAnyH_take (i := 12) (oi := _) (v := .pointer (some ⟨gm, pj, none⟩)) rfl (by kernel_rfl) (by kernel_rfl) (by kernel_rfl) (fun _ _ _ h => h) (Or.inl ⟨by rfl, ?_⟩) hS ?_
            · intro w' hSw
              obtain ⟨s1, s2, s3⟩ := hSw
              (try simp only [List.getElem_toArray, List.getElem_cons_succ, List.getElem_cons_zero])
              go_simp
            (try simp only [List.getElem_toArray, List.getElem_cons_succ, List.getElem_cons_zero, Act.put, List.setIfInBounds_toArray, List.set_cons_zero, List.set_cons_succ])
            refine wpAnyH_take (i := 13) (oi := _) (v := .int .i64 z) rfl (by kernel_rfl) (by kernel_rfl) (by kernel_rfl) (fun _ _ _ h => h) (Or.inl ⟨by rfl, ?_⟩) hS ?_
            · intro w' hSw
              obtain ⟨s1, s2, s3⟩ := hSw
              (try simp only [List.getElem_toArray, List.getElem_cons_succ, List.getElem_cons_zero])
              go_simp
            (try simp only [List.getElem_toArray, List.getElem_cons_succ, List.getElem_cons_zero, Act.put, List.setIfInBounds_toArray, List.set_cons_zero, List.set_cons_succ])
            refine wpAnyH_take (i := 14) (oi := _) (v := .pointer (some ⟨gm, qj, none⟩)) rfl (by kernel_rfl) (by kernel_rfl) (by kernel_rfl) (fun _ _ _ h => h) (Or.inl ⟨by rfl, ?_⟩) hS ?_
            · intro w' hSw
              obtain ⟨s1, s2, s3⟩ := hSw
              (try simp only [List.getElem_toArray, List.getElem_cons_succ, List.getElem_cons_zero])
              go_simp
            (try simp only [List.getElem_toArray, List.getElem_cons_succ, List.getElem_cons_zero, Act.put, List.setIfInBounds_toArray, List.set_cons_zero, List.set_cons_succ])
            refine wpAnyH_ready (rs := [15]) (by kernel_rfl) (by simp) ?_
            refine AllReadyH.cons (o := _) rfl (fun K hK => ?_) AllReadyH.nil
            (try simp only [List.getElem_toArray, List.getElem_cons_succ, List.getElem_cons_zero])
            go_simp
            refine hK.out _ _ HS2.out (fun hS' => ?_)
            clear hS' hK K hS hd4 hd5
            (try simp only [List.getElem_toArray, List.getElem_cons_succ, List.getElem_cons_zero, Act.put, List.setIfInBounds_toArray, List.set_cons_zero, List.set_cons_succ])
            refine wpAnyH_done (by kernel_rfl) ?_ _
            go_wp2
            go_roundw
            case rel => exact ⟨j + 1, mem.set qj z, by omega, by go_num, below_set HY.out.1 hgm _, HY.out.2.1.other hgk _, HY.out.2.2.1, HY.out.2.2.2.1, HY.out.2.2.2.2.1, HY.out.2.2.2.2.2.1, HY.out.2.2.2.2.2.2⟩
            case measure => simp [intOf]; omega
          · obtain rfl : j = row.length := by omega
            have hgl2 : decide ((row.length : Int) < row.length) = false := by simp
            have HX := Lib.hid (And.intro hmi (And.intro hla hlb))
            obtain ⟨old, ho⟩ : ∃ old, mem[d + 2]? = some old := ⟨_, hmi.c2⟩
            have qa := (km.cell (d + 2)).trans (memC_get ho)
            have fa := km.free (d + 2)
            have ia' : (d : Int) + 2 < N := by omega
            clear hmi hla hlb ho hown
            go_upto_region 37 with fail
            have gm6 := km.lt
            replace km := km.stored (d + 2) (.int .i64 (k + 1))
            rw [memC_set] at km
            replace k0 := k0.other (p := ⟨gm, d + 2, none⟩) hgk (.int .i64 (k + 1))
            replace hbl := below_set hbl (p := ⟨gm, d + 2, none⟩) hgm (.int .i64 (k + 1))
            have hmn := HX.out.1.next hdN (k + 1)
            have hlq := HX.out.2.2.other (q := d + 2) (x := k + 1) (fun i => by have := HQ2.out.1 i; omega)
            have HX2 := Lib.hid (And.intro hmn hlq)
            clear qa fa HX hmn hlq
            generalize wr.setCell ⟨gm, d + 2, none⟩ (.int .i64 (k + 1)) = w16 at *
            generalize mem.set (d + 2) (k + 1) = mem2 at *
            go_wp2_with (refine wpList_load_rowG (by rfl) 26 (.tmp 14) rfl g rfl 26 (lyC l) (0, 0) _ k0 Try.underlying26 rfl (by kernel_rfl) ?_)
            (with_reducible refine (row_any l s (k + 1) tp d N gm Q mem2 row _ HF.out b0 fs1 hd0 hd1 HD.out.1 km HX2.out.1.len hN1 hdN HX2.out.1.c0 HX2.out.1.c1 HX2.out.1.c2 HQ2.out.2.2.2 t0 (by omega) (by omega) (fun j hj => ⟨(HQ2.out.1 j).2.1, (HQ2.out.1 j).2.2.2, Laid.get HX2.out.2 j hj⟩)).mono ?_)
            rintro e w17 ⟨Ax, cx, rfl, hown, hb⟩
            have hsw := slint_own hown
            replace hbl := below_tr hbl hb
            clear hb hown k0 km
            have hrw := (HW.out.below hbl).more hbl.size
            go_wp2_with fail
            (with_reducible refine (ints_any Ax A cx c row row _ hsw hrw (by omega) (by omega)).mono ?_)
            rintro e w18 ⟨rfl, hb⟩
            rw [dec_self]
            replace hbl := below_tr hbl hb
            clear hb hsw hrw
            go_wp2
            go_ret
            exact ⟨rfl, hbl⟩
      · have hmv : movesOf l s k tp (tp + row.length) = [] := by
          unfold movesOf
          rw [if_neg]
          rintro ⟨_, _, h⟩
          exact h (HQ.out.2 (by omega))
        rw [hmv]
        clear hmv hpo hfit km
        go_wp2_with (refine wpList_load_row rfl 26 (.tmp 14) rfl g rfl 26 (lyC l) (0, 0) _ k0 Try.underlying26 rfl (by kernel_rfl) ?_)
        (with_reducible refine (rings_any l _ ft1 ft2).mono ?_)
        rintro e w15 ⟨rfl, hb⟩
        replace hbl := below_tr hbl hb
        clear hb k0
        have g1 : decide (ringsN l.c.tasks ≤ k + 1) = true := by simp; omega
        go_wp2
        go_ret
        exact ⟨rfl, hbl⟩
theorem slint_sl {w : World} {B n : Nat} {A : Option Addr} {zs : List Int} (hl : zs.length = n) (h : Sl w B A n (ints zs)) : SlInt w B A zs := by
  intro hp
  obtain ⟨b, o, e, hb, hc⟩ := h.2 (by omega)
  exact ⟨b, o, e, hb, fun k r hr => hc k _ (by simp [ints, hr])⟩
theorem moves_top (x y se r tp : Int) (A : Option Addr) (n c : Nat) (row : List Int) (w : World) (x0 : 0 ≤ x) (x1 : x < 256) (y0 : 0 ≤ y) (y1 : y < 256) (s0 : 0 ≤ se) (s1 : se < 256) (r0 : 0 ≤ r) (r1 : r < 256) (t0 : 0 ≤ tp) (t1 : tp < 65536) (hl : row.length = n) (h : Sl w w.heap.size A n (ints row)) :
    Calls Try.prog 7 #[.int .u8 x, .int .u8 y, .int .u8 se, .int .u8 r, .int .u16 tp, .slice A n c] w (BoolBelow true w) := by
  have h' := slint_sl hl h
  subst hl
  exact moves_law x y se r tp A c row w x0 x1 y0 y1 s0 s1 r0 r1 t0 t1 h'
end Go.Proofs.Ytekibkfpamfmoaa
