/- DequeLast. Printed by dqlast_gen.py. -/
import Derived.Test.YtdjglkpcdhkodaaDqF
import Derived.Test.YtdjglkpcdhkodaaDqLe
import Derived.Test.YtdjglkpcdhkodaaDqRow
namespace Go.Proofs.Ytdjglkpcdhkodaa
open Go.RowKit
set_option linter.unusedVariables false
attribute [local go_sem ↓] Go.wp_at_zero Go.wp_at_succ

/-! Rows of bytes. -/
def u8L (xs : List Nat) : List Value := xs.map fun x => .int .u8 (x : Nat)
theorem u8_info : (Try.prog.info? 5).map (fun i => (i.zero, i.size, i.bytes)) = some (some (.int .u8 0), 1, 1) := by kernel_rfl
theorem u8_built (w : World) (B : Nat) (hB : B ≤ w.heap.size) : (w.alloc (.cells #[.int .u8 0, .int .u8 2] 5)).ownsRow B 5 1 (.slice (some ⟨w.heap.size, 0, none⟩) 2 2) 2 (u8L [0, 2]) :=
  ⟨rfl, .inr ⟨w.heap.size, 2, #[.int .u8 0, .int .u8 2], rfl, hB, Bk.made w 5 _, Nat.le_refl _, by decide, rfl, rfl⟩⟩
theorem u8_own {w : World} {B n c : Nat} {G : Option Addr} {xs : List Nat} (h : w.ownsRow B 5 1 (.slice G n c) n (u8L xs)) (hx : ∀ x ∈ xs, x < 256) : SlU8 w w.heap.size G xs := by
  intro hl
  rcases h.2 with ⟨_, h0⟩ | ⟨g, cap, cur, h1, _, h3, _, _, _, h4⟩
  · have := h.1; simp [u8L] at this; omega
  · injection h1 with h1 _ _
    refine ⟨g, 0, h1, (Array.getElem?_eq_some_iff.1 h3).1, fun k t ht => ⟨?_, hx t (List.mem_of_getElem? ht)⟩⟩
    have h5 : (u8L xs)[k]? = some (.int .u8 (t : Nat)) := by simp [u8L, ht]
    rw [← h4, List.getElem?_take] at h5
    rw [Nat.zero_add, Bk.cell (w := w) (g := g) h3 k]
    split at h5
    · simpa using h5
    · cases h5
theorem SlU8.front {w : World} {B : Nat} {A : Option Addr} {xs ys : List Nat} (h : SlU8 w B A (xs ++ ys)) : SlU8 w B A xs := by
  intro hl
  obtain ⟨b, o, e, hb, hc⟩ := h (by rw [List.length_append]; omega)
  exact ⟨b, o, e, hb, fun k t ht => hc k t (by rw [List.getElem?_append_left (List.getElem?_eq_some_iff.1 ht).1]; exact ht)⟩
def ownN (k : Nat) : List Nat := (List.replicate k [0, 2]).flatten
theorem ownN_succ (k : Nat) : ownN (k + 1) = [0, 2] ++ ownN k := by unfold ownN; rw [List.replicate_succ, List.flatten_cons]
theorem ownN_len (k : Nat) : (ownN k).length = 2 * k := by
  induction k with
  | zero => rfl
  | succ k ih => rw [ownN_succ, List.length_append, ih]; simp; omega
theorem ownN_in (k : Nat) : ∀ x ∈ ownN k, x < 256 := by
  induction k with
  | zero => intro x hx; cases hx
  | succ k ih =>
    intro x hx
    rw [ownN_succ] at hx
    rcases List.mem_append.1 hx with hx | hx
    · simp at hx; omega
    · exact ih x hx
theorem ownN_back (k : Nat) : ownN (k + 1) = ownN k ++ [0, 2] := by unfold ownN; rw [List.replicate_succ', List.flatten_append]; rfl
theorem lastOwn_own (b : Nat) : lastOwn b ++ [2] = ownN (b + 1) := by
  rw [ownN_back]
  show (ownN b ++ [0]) ++ [2] = _
  rw [List.append_assoc]; rfl
theorem lastOwn_len (b : Nat) : (lastOwn b).length = 2 * b + 1 := by
  show (ownN b ++ [0]).length = _
  rw [List.length_append, ownN_len]; rfl
/-! The plays. -/
abbrev pC (O : Option Addr) (n1 co : Nat) : Array Value := #[.slice O n1 co, .int .u8 0, .int .u8 0, .int .u8 3, .slice none 0 0]
abbrev qC (O : Option Addr) (n2 co : Nat) : Array Value := #[.slice O n2 co, .int .u8 1, .int .u8 1, .int .u8 3, .slice none 0 0]
theorem where_p (O : Option Addr) (n1 co : Nat) (w : World) : Calls Try.prog 10 #[.agg (pC O n1 co)] w (LyBelow (playL 3) w) := where_any O n1 co 0 0 3 none 0 0 w (by omega) (by omega)
theorem played_p (O : Option Addr) (b n1 co : Nat) (w : World) (hn1 : n1 = 2 * b + 1) (hb : b < 5) (hO : SlU8 w w.heap.size O (lastOwn b)) : Calls Try.prog 11 #[.agg (pC O n1 co)] w (PlayedPost (lastA b) w) := by
  have h := played_any (lastP b) O co 3 none 0 [] w (by show (lastOwn b).length ≤ 14; rw [lastOwn_len]; omega) (by decide) (by omega) (by omega) (by show (0 : Nat) < 256; omega) (by show (0 : Nat) < 256; omega) hO (fun h => absurd h (by decide))
  rw [last_end b hb] at h
  have e : (lastP b).own.length = n1 := by rw [hn1]; exact lastOwn_len b
  rw [e] at h
  exact h
theorem turn_q {l : Ly} {sz n : Nat} {row0 : List Int} {t : TabD} {who : Nat} {b : Nat} (h : DI l sz (lastQ b) row0 n t) (ly : DLay l sz) (f : DqLy l) (hb : b < 5) (hw : who < 3) (hn : n ≤ 90000) {B gt n2 : Nat} (hn2 : n2 = 2 * b + 2) (O : Option Addr) (co : Nat) (w : World) (hT : TRep w B gt t) (hO : SlU8 w w.heap.size O (ownN (b + 1))) :
    Calls Try.prog 18 #[ptr gt, .agg (lyC l), .agg (qC O n2 co), .int .i64 (who : Nat)] w (UnitStep B gt (turnD l (lastQ b) who t) w) := by
  have e : (lastQ b).own = ownN (b + 1) := lastOwn_own b
  have e2 : (lastQ b).own.length = n2 := by rw [e, ownN_len]; omega
  have h := turn_call h ly f (by omega) hw hn O co 3 none 0 0 w hT (by rw [e]; exact hO) (by show (1 : Nat) < 256; omega) (by show (1 : Nat) < 256; omega)
  rw [e2] at h
  exact h
structure LaR (B gt bL bQ : Nat) (l : Ly) (t0 : TabD) (b n2 : Nat) (O : Option Addr) (co : Nat) (ws : List Nat) (w wr : World) : Prop where
  tr : TRep wr B gt (runD l (lastQ b) t0 ws)
  kL : Bk wr bL 31 (lyC l)
  kQ : Bk wr bQ 25 (qC O n2 co)
  bl : Below w.heap.size w wr
  hB : w.heap.size ≤ B
  hO : SlU8 wr B O (ownN (b + 1))
theorem LaR.step {B gt bL bQ : Nat} {l : Ly} {t0 : TabD} {b n2 co : Nat} {O : Option Addr} {ws : List Nat} {who : Nat} {w wr w' : World} (h : LaR B gt bL bQ l t0 b n2 O co ws w wr) (hT : TRep w' B gt (turnD l (lastQ b) who (runD l (lastQ b) t0 ws))) (hs : TStp B wr w') : LaR B gt bL bQ l t0 b n2 O co (ws ++ [who]) w w' :=
  ⟨by rw [runD_snoc]; exact hT, hs.keep h.kL (by decide) (by decide), hs.keep h.kQ (by decide) (by decide), h.bl.trans (hs.below.mono h.hB), h.hB, h.hO.below hs.below⟩
theorem LaR.keep {B gt bL bQ : Nat} {l : Ly} {t0 : TabD} {b n2 co : Nat} {O : Option Addr} {ws : List Nat} {w wr w' : World} (h : LaR B gt bL bQ l t0 b n2 O co ws w wr) (hs : B ≤ wr.heap.size) (hb : Below wr.heap.size wr w') : LaR B gt bL bQ l t0 b n2 O co ws w w' :=
  ⟨h.tr.keep hb, h.kL.keep hb, h.kQ.keep hb, below_tr h.bl hb, h.hB, h.hO.below (hb.mono hs)⟩
theorem LaR.big {B gt bL bQ : Nat} {l : Ly} {t0 : TabD} {b n2 co : Nat} {O : Option Addr} {ws : List Nat} {w wr : World} (h : LaR B gt bL bQ l t0 b n2 O co ws w wr) : B ≤ wr.heap.size := by
  obtain ⟨mv, dv, lv, hx⟩ := h.tr
  have h1 := hx.base
  have h2 := hx.tab.lt
  omega
/-- The list that is made. -/
def La1 (w : World) (b : Nat) (v6 v7 : Value) (wr : World) : Prop := ∃ k : Nat, k ≤ b ∧ v7 = .int .i64 k ∧ Below w.heap.size w wr ∧ ∃ G c, v6 = .slice G (2 * k + 2) c ∧ wr.ownsRow w.heap.size 5 1 v6 (2 * k + 2) (u8L (ownN (k + 1)))
def La2 (B gt bL bQ : Nat) (l : Ly) (t0 : TabD) (b n2 : Nat) (O : Option Addr) (co : Nat) (turns : List Nat) (w : World) (i : Value) (wr : World) : Prop :=
  ∃ k : Nat, k ≤ turns.length ∧ i = .int .i64 k ∧ LaR B gt bL bQ l t0 b n2 O co ((turns.take k).map (· % 3)) w wr
def La3 (B gt bL bQ : Nat) (l : Ly) (t0 : TabD) (b n2 : Nat) (O : Option Addr) (co : Nat) (turns : List Nat) (w : World) (v : Value) (wr : World) : Prop :=
  ∃ who : Nat, who ≤ 3 ∧ v = .int .i64 who ∧ LaR B gt bL bQ l t0 b n2 O co (turns.map (· % 3) ++ doneW 60 who) w wr
def La4 (B gt bL bQ : Nat) (l : Ly) (t0 : TabD) (b n2 : Nat) (O : Option Addr) (co : Nat) (turns : List Nat) (who : Nat) (w : World) (i : Value) (wr : World) : Prop :=
  ∃ k : Nat, k ≤ 60 ∧ i = .int .i64 k ∧ LaR B gt bL bQ l t0 b n2 O co (turns.map (· % 3) ++ doneW 60 who ++ List.replicate k who) w wr
def La5 (w5 : World) (ds : List DoneD) (v15 v16 : Value) (wr : World) : Prop := ∃ k : Nat, k ≤ 3 ∧ v16 = .int .i64 k ∧ v15 = .int .i64 (takesOf (ds.take k)).length ∧ Below w5.heap.size w5 wr
theorem takes_step (xs : List DoneD) (d : DoneD) (hk : d.op.kind ≠ 8) : takesOf (xs ++ [d]) = takesOf xs ++ (if d.is = true then [d.val] else []) := by
  unfold takesOf
  rw [List.filter_append, List.map_append]
  congr 1
  rw [List.filter_cons]
  have e : decide (d.op.kind ≠ 8) = true := by simpa using hk
  rw [e, Bool.true_and]
  split <;> rfl
theorem takes_lt (ds : List DoneD) : (takesOf ds).length ≤ ds.length := by unfold takesOf; rw [List.length_map]; exact List.length_filter_le _ _
set_option maxRecDepth 1000000 in
set_option maxHeartbeats 16000000 in
theorem dlast_any (T : Option Addr) (nt ct : Nat) (turns : List Nat) (i : Int) (w : World) (hT0 : turns.length = nt) (hT : SlU8 w w.heap.size T turns) (lo : 0 ≤ i) (hi : i < 256) :
    Calls Try.prog 7 #[.slice T nt ct, .int .u8 i] w (BoolBelow true w) := by
  obtain ⟨ib, rfl⟩ : ∃ n : Nat, i = (n : Int) := ⟨i.toNat, by omega⟩
  obtain ⟨b, hbm⟩ : ∃ b, ib % 5 = b := ⟨_, rfl⟩
  have hb5 : b < 5 := by omega
  have hmod : (ib : Int) % 5 = (b : Int) := by omega
  have HBM := Lib.hid (And.intro hbm hmod)
  clear hbm hmod
  have HT := Lib.hid hT
  clear hT
  subst hT0
  go_enter Try.func7, Try.ntmps7
  go_wp2_with fail
  (with_reducible refine (shown_any _).mono ?_)
  rintro e w1 ⟨rfl, hb⟩
  have hbl := below_tr (Below.refl w.heap.size w) hb
  clear hb
  by_cases h60 : turns.length ≤ 60
  rotate_left
  · have g1 : decide ((60 : Int) < turns.length) = true := by simp; omega
    have g2 : decide ((turns.length : Int) > 60) = true := by simp; omega
    go_wp2_with fail
    go_ret
    exact ⟨rfl, hbl⟩
  have g1 : decide ((60 : Int) < turns.length) = false := by simp; omega
  have g2 : decide ((turns.length : Int) > 60) = false := by simp; omega
  go_upto_region 5 with fail
  clear g1 g2
  have hown := u8_built w1 w.heap.size hbl.size
  replace hbl := below_al hbl (.cells #[.int .u8 0, .int .u8 2] 5)
  generalize w1.alloc (.cells #[.int .u8 0, .int .u8 2] 5) = w2 at *
  generalize w1.heap.size = g2 at *
  have HR := Lib.hid (show La1 w b (.slice (some ⟨g2, 0, none⟩) 2 2) (.int .i64 (0 : Nat)) w2 from ⟨0, Nat.zero_le _, rfl, hbl, some ⟨g2, 0, none⟩, 2, rfl, hown⟩)
  clear hbl hown
  obtain ⟨i0, hi0, hz0, hz1, hz2⟩ := info_parts u8_info
  have HI := Lib.hid (And.intro hi0 (And.intro hz0 (And.intro hz1 hz2)))
  clear hi0 hz0 hz1 hz2
  go_wp2_with fail
  go_loopw [6, 7] (fun v6 v7 wr => La1 w b v6 v7 wr) (fun _ v7 _ => b - (intOf v7).toNat)
  case atStart => exact HR.out
  case round =>
    clear HR
    obtain ⟨k, hk, rfl, hb, G, c, rfl, hown⟩ := hrel
    have hmod := HBM.out.2
    by_cases hlt : k < b
    · have g1 : (k : Int) < b := by omega
      have hnew := u8_built wr w.heap.size hb.size
      have hbr := below_al (Below.refl wr.heap.size wr) (.cells #[.int .u8 0, .int .u8 2] 5)
      have hb2 := below_tr hb hbr
      have hsrc : ∃ g, G = some ⟨g, 0, none⟩ ∧ ∀ (j : Nat) (u : Value), (u8L (ownN (k + 1)))[j]? = some u → (wr.alloc (.cells #[.int .u8 0, .int .u8 2] 5)).cell? ((⟨g, 0, none⟩ : Addr).add j) = some u := by
        have hown2 := own_keepb' hown hbr
        rcases hown2.2 with ⟨_, h0⟩ | ⟨g, cap, cur, h1, _, h3, _, _, _, h4⟩
        · omega
        · injection h1 with h1 _ _
          refine ⟨g, h1, fun j u hu => ?_⟩
          rw [← h4, List.getElem?_take] at hu
          rw [Go.WideShapes.add_plain, Nat.zero_add, Bk.cell (g := g) h3 j]
          split at hu
          · simpa using hu
          · cases hu
      obtain ⟨g, rfl, hsrc⟩ := hsrc
      have hlen : (u8L (ownN (k + 1))).length = (2 * k + 2) * 1 := hown.1
      have hone : ∀ u ∈ u8L (ownN (k + 1)), u.oneCell' = true := by
        intro u hu
        unfold u8L at hu
        obtain ⟨x, _, rfl⟩ := List.mem_map.1 hu
        rfl
      obtain ⟨hi0, hz0, hz1, hz2⟩ := HI.out
      have HB := Lib.hid (And.intro hb2 hb2.size)
      clear hown hb hbr hb2
      go_wp2_with (first
        | (at_builtin; go_must (refine wpList_append_own_at _ rfl (.tmp 30) (.tmp 31) _ rfl w.heap.size 5 i0 _ 1 1 Try.underlying22 hi0 hz0 hz1 hz2 rfl (by omega) (.slice (some ⟨wr.heap.size, 0, none⟩) 2 2) 2 (u8L [0, 2]) rfl hnew ⟨g, 0, none⟩ (2 * k + 2) c (u8L (ownN (k + 1))) rfl hlen hsrc hone (by simp only [maxLen]; omega) (by omega) HB.out.2 ?_; intro v9 w7 hrow7 hgrow7 _ _)))
      have hbg := below_grow HB.out.1 hnew hgrow7 HB.out.2 (Nat.le_refl _)
      have hR : La1 w b v9 (.int .i64 ((k + 1 : Nat) : Int)) w7 := by
        obtain ⟨G9, c9, rfl⟩ := own_slice hrow7
        refine ⟨k + 1, by omega, rfl, hbg, G9, c9, ?_, ?_⟩
        · congr 1; omega
        · rw [show 2 * (k + 1) + 2 = 2 + (2 * k + 2) by omega, ownN_succ (k + 1), show u8L ([0, 2] ++ ownN (k + 1)) = u8L [0, 2] ++ u8L (ownN (k + 1)) from List.map_append ..]
          exact hrow7
      have HR := Lib.hid hR
      clear hR hbg hrow7 hgrow7 hnew HB hsrc hone hlen hi0 hz0 hz1 hz2
      go_wp2_with fail
      go_roundw
      case rel => exact HR.out
      case measure => simp [intOf]; omega
    · obtain rfl : k = b := by omega
      have g1 : decide ((k : Int) < k) = false := by simp
      have hO := u8_own hown (ownN_in (k + 1))
      obtain ⟨n2, hn2⟩ : ∃ n2, n2 = 2 * k + 2 := ⟨_, rfl⟩
      obtain ⟨n1, hn1⟩ : ∃ n1, n1 = 2 * k + 1 := ⟨_, rfl⟩
      rw [← hn2] at hown ⊢
      have hcap : n2 ≤ c := by
        rcases hown.2 with ⟨h0, _⟩ | ⟨g, cap, cur, h1, _, _, h4, _⟩
        · injection h0 with _ h0 _; omega
        · injection h1 with _ _ h1; omega
      have HN12 := Lib.hid (And.intro hn1 hn2)
      have hn3 : IntKind.i64.wrap ((n2 : Int) - 1) = (n1 : Int) := by rw [IntWalk.i64_in _ (by omega)]; omega
      have hn4 : n1 ≤ c := by omega
      have HO := Lib.hid hO
      have hbl := hb
      have hn15 : n2 ≤ 20 := by omega
      clear hown hO hb hn1 hn2 HI
      go_upto_region 10 with (refine wpList_store_new rfl 25 (.tmp 8) (.tmp 38) rfl rfl wr.heap.size _ _ (pC G n1 c) rfl rfl rfl rfl (by kernel_rfl) rfl (by simp [Value.oneCell']) ?_)
      have kP := Bk.made wr 25 (pC G n1 c)
      have hO0 := HO.out
      replace hO0 := (hO0.below (below_al (Below.refl wr.heap.size wr) (.cells (pC G n1 c) 25))).more (below_al (Below.refl wr.heap.size wr) (.cells (pC G n1 c) 25)).size
      replace hbl := below_al hbl (.cells (pC G n1 c) 25)
      generalize wr.alloc (.cells (pC G n1 c) 25) = w3 at *
      generalize wr.heap.size = bP at *
      clear HO
      go_wp2_with (refine wpList_load_row rfl 25 (.tmp 8) rfl bP rfl 25 (pC G n1 c) (0, 0) _ kP Try.underlying25 rfl (by kernel_rfl) ?_)
      (with_reducible refine (where_p G n1 c _).mono ?_)
      rintro e w4 ⟨rfl, hb⟩
      replace kP := kP.keep hb
      replace hbl := below_tr hbl hb
      replace hO0 := (hO0.below hb).more hb.size
      clear hb
      obtain ⟨hnn, ly, lf⟩ := playL_size 3 (by omega)
      have hbeg := last_begin k hb5
      obtain ⟨l, hl⟩ : ∃ l, playL 3 = l := ⟨_, rfl⟩
      obtain ⟨SZ, hSZ⟩ : ∃ s, (playL 3).size.toNat = s := ⟨_, rfl⟩
      rw [hSZ] at ly
      rw [hl] at ly lf ⊢
      have HL := Lib.hid (And.intro hl hSZ)
      have HLY := Lib.hid (And.intro ly lf)
      have hbig := ly.big
      clear hnn ly lf hl hSZ hbeg
      go_upto_region 11 with (refine wpList_store_new rfl 31 (.tmp 9) (.tmp 40) rfl rfl w4.heap.size _ _ (lyC l) rfl rfl rfl rfl (by kernel_rfl) rfl (by simp [Value.oneCell']) ?_)
      have kL := Bk.made w4 31 (lyC l)
      have hba := below_al (Below.refl w4.heap.size w4) (.cells (lyC l) 31)
      replace kP := kP.keep hba
      replace hbl := below_tr hbl hba
      replace hO0 := (hO0.below hba).more hba.size
      clear hba
      generalize w4.alloc (.cells (lyC l) 31) = w5 at *
      generalize w4.heap.size = bL at *
      go_wp2_with (refine wpList_load_row rfl 25 (.tmp 8) rfl bP rfl 25 (pC G n1 c) (0, 0) _ kP Try.underlying25 rfl (by kernel_rfl) ?_)
      have hOf : SlU8 w5 w5.heap.size G (lastOwn k) := SlU8.front (ys := [2]) (by rw [lastOwn_own]; exact hO0)
      (with_reducible refine (played_p G k n1 c _ HN12.out.1 hb5 hOf).mono ?_)
      rintro e w6 ⟨gt, rfl, htr, hb⟩
      obtain ⟨B, hB⟩ : ∃ B, w5.heap.size = B := ⟨_, rfl⟩
      have hB0 : w.heap.size ≤ B := by rw [← hB]; exact hbl.size
      replace kL := kL.keep hb
      replace hbl := below_tr hbl hb
      replace hO0 := hO0.below hb
      rw [hB] at htr hO0
      clear hb hOf kP hB
      obtain ⟨mv, dv, lv, hx⟩ := htr
      have c26 := hx.tab.cell 26
      have f26 := hx.tab.free 26
      have lt := hx.tab.lt
      have gtB := hx.base
      have hx2 := hx.setDone (dv' := .slice none 0 0) [] (World.ownsRow_nil _ _ _ _)
      have hst := TStp.set gtB hx.tab 26 (.slice none 0 0)
      have htr2 : TRep (w6.setCell ⟨gt, 26, none⟩ (.slice none 0 0)) B gt (lastT k) := ⟨_, _, _, hx2⟩
      replace kL := hst.keep kL (by decide) (by decide)
      replace hbl := hbl.trans (hst.below.mono hB0)
      replace hO0 := hO0.below hst.below
      have HX := Lib.hid (And.intro htr2 (And.intro kL (And.intro hbl hO0)))
      clear hx hx2 hst htr2 kL hbl hO0
      (try simp at c26)
      go_upto_region 13 with fail
      clear c26 f26
      obtain ⟨htr, kL, hbl, hO0⟩ := HX.out
      clear HX lt
      generalize w6.setCell ⟨gt, 26, none⟩ (.slice none 0 0) = w7 at *
      have hBw : B ≤ w7.heap.size := by
        have := htr.lt
        omega
      go_upto_region 14 with (refine wpList_store_new rfl 25 (.tmp 11) (.tmp 48) rfl rfl w7.heap.size _ _ (qC G n2 c) rfl rfl rfl rfl (by kernel_rfl) rfl (by simp [Value.oneCell']) ?_)
      have kQ := Bk.made w7 25 (qC G n2 c)
      have hba := below_al (Below.refl w7.heap.size w7) (.cells (qC G n2 c) 25)
      replace kL := kL.keep hba
      replace htr := htr.keep hba
      replace hbl := below_tr hbl hba
      replace hO0 := hO0.below (hba.mono hBw)
      clear hba hBw
      generalize w7.alloc (.cells (qC G n2 c) 25) = w8 at *
      generalize w7.heap.size = bQ at *
      have hbeg := (last_begin k hb5).1
      obtain ⟨t0, ht0⟩ : ∃ t0, lastT k = t0 := ⟨_, rfl⟩
      rw [HL.out.1, ht0] at hbeg
      rw [show (l.size.toNat) = SZ by rw [← HL.out.1]; exact HL.out.2] at hbeg
      rw [ht0] at htr
      have HT0 := Lib.hid ht0
      have HR := Lib.hid (show LaR B gt bL bQ l t0 k n2 G c [] w w8 from ⟨htr, kL, kQ, hbl, hB0, hO0⟩)
      have HDI : ∀ ws : List Nat, (∀ x ∈ ws, x < 3) → DI l SZ (lastQ k) [((2 * k + 1 : Nat) : Int)] (70 + ws.length) (runD l (lastQ k) t0 ws) := fun ws hws =>
        DI.run HLY.out.1 (by show (lastOwn k ++ [2]).length ≤ 900; rw [lastOwn_own, ownN_len]; omega) ws hbeg hws
      have HD := Lib.hid HDI
      clear htr kL kQ hbl hO0 HDI hbeg ht0
      go_wp2_with fail
      go_loopw [12, 49, 50, 51, 52, 53, 54, 55, 56, 57, 58, 59, 60, 61, 62, 63, 64] (fun i _ _ _ _ _ _ _ _ _ _ _ _ _ _ _ _ wr => La2 B gt bL bQ l t0 k n2 G c turns w i wr) (fun i _ _ _ _ _ _ _ _ _ _ _ _ _ _ _ _ _ => turns.length - (intOf i).toNat)
      case atStart => exact ⟨0, Nat.zero_le _, rfl, HR.out⟩
      case round =>
        clear HR
        obtain ⟨j, hj, rfl, hr⟩ := hrel
        by_cases hlt : j < turns.length
        · obtain ⟨x, hx⟩ : ∃ x, turns[j]? = some x := ⟨_, List.getElem?_eq_getElem hlt⟩
          obtain ⟨bT, oT, hTA, hbT, hcT⟩ := HT.out (by omega)
          obtain ⟨cx, x256⟩ := hcT j x hx
          replace cx : wr.cell? ⟨bT, oT + j, none⟩ = some (.int .u8 (x : Nat)) := (hr.bl.cell (p := ⟨bT, _, none⟩) hbT).trans cx
          have hbB : bT < B := Nat.lt_of_lt_of_le hbT hB0
          subst hTA
          have HRR := Lib.hid hr
          have HXX := Lib.hid hx
          have g1 : (j : Int) < turns.length := by omega
          clear hcT hx hr
          go_upto_region 17 with fail
          refine wp_region_E (S := fun w' => TStp B wr.drew w') (E := fun _ => false) (by kernel_rfl) ?_
          have hbd := below_drew' (Below.refl wr.heap.size wr)
          have hr := HRR.out.keep HRR.out.big hbd
          replace cx := cell_keep hbd cx
          clear hbd HRR
          generalize wr.drew = v1 at *
          refine wpAnyE_take (i := 0) (oi := _) (v := .pointer (some ⟨gt, 0, none⟩)) rfl (by kernel_rfl) (by kernel_rfl) (by kernel_rfl) (by kernel_rfl) (fun _ _ _ h => h) (Or.inl ⟨by rfl, ?_⟩) (TStp.refl _ _) ?_
          · intro w' hSw
            (try simp only [List.getElem_toArray, List.getElem_cons_zero])
            go_simp
          (try simp only [List.getElem_toArray, List.getElem_cons_zero, Act.put, List.setIfInBounds_toArray, List.set_cons_zero, List.set_cons_succ])
          refine wpAnyE_take (i := 1) (oi := _) (v := .agg (lyC l)) rfl (by kernel_rfl) (by kernel_rfl) (by kernel_rfl) (by kernel_rfl) (fun _ _ _ h => h) (Or.inl ⟨by rfl, ?_⟩) (TStp.refl _ _) ?_
          · intro w' hSw
            (try simp only [List.getElem_toArray, List.getElem_cons_succ, List.getElem_cons_zero])
            simp only [execOp, Instr.loadAt, Instr.sureAddr, Sem.run_bind, Sem.run_pure]
            rw [show (Act.eval _ (Operand.tmp 9)) = Value.pointer (some ⟨bL, 0, none⟩) from rfl]
            simp only [Sem.run_pure, Result.andThen_ok, run_loadVar_row w' bL 31 31 (lyC l) (0, 0) _ (hSw.keep hr.kL (by decide) (by decide)) Try.underlying31 rfl (by kernel_rfl)]
          (try simp only [List.getElem_toArray, List.getElem_cons_succ, List.getElem_cons_zero, Act.put, List.setIfInBounds_toArray, List.set_cons_zero, List.set_cons_succ])
          refine wpAnyE_take (i := 2) (oi := _) (v := .agg (qC G n2 c)) rfl (by kernel_rfl) (by kernel_rfl) (by kernel_rfl) (by kernel_rfl) (fun _ _ _ h => h) (Or.inl ⟨by rfl, ?_⟩) (TStp.refl _ _) ?_
          · intro w' hSw
            (try simp only [List.getElem_toArray, List.getElem_cons_succ, List.getElem_cons_zero])
            simp only [execOp, Instr.loadAt, Instr.sureAddr, Sem.run_bind, Sem.run_pure]
            rw [show (Act.eval _ (Operand.tmp 11)) = Value.pointer (some ⟨bQ, 0, none⟩) from rfl]
            simp only [Sem.run_pure, Result.andThen_ok, run_loadVar_row w' bQ 25 25 (qC G n2 c) (0, 0) _ (hSw.keep hr.kQ (by decide) (by decide)) Try.underlying25 rfl (by kernel_rfl)]
          (try simp only [List.getElem_toArray, List.getElem_cons_succ, List.getElem_cons_zero, Act.put, List.setIfInBounds_toArray, List.set_cons_zero, List.set_cons_succ])
          refine wpAnyE_take (i := 3) (oi := _) (v := .slice (some ⟨bT, oT, none⟩) turns.length ct) rfl (by kernel_rfl) (by kernel_rfl) (by kernel_rfl) (by kernel_rfl) (fun _ _ _ h => h) (Or.inl ⟨by rfl, ?_⟩) (TStp.refl _ _) ?_
          · intro w' hSw
            (try simp only [List.getElem_toArray, List.getElem_cons_succ, List.getElem_cons_zero])
            go_simp
          (try simp only [List.getElem_toArray, List.getElem_cons_succ, List.getElem_cons_zero, Act.put, List.setIfInBounds_toArray, List.set_cons_zero, List.set_cons_succ])
          refine wpAnyE_take (i := 4) (oi := _) (v := .int .i64 (j : Nat)) rfl (by kernel_rfl) (by kernel_rfl) (by kernel_rfl) (by kernel_rfl) (fun _ _ _ h => h) (Or.inl ⟨by rfl, ?_⟩) (TStp.refl _ _) ?_
          · intro w' hSw
            (try simp only [List.getElem_toArray, List.getElem_cons_succ, List.getElem_cons_zero])
            go_simp
          (try simp only [List.getElem_toArray, List.getElem_cons_succ, List.getElem_cons_zero, Act.put, List.setIfInBounds_toArray, List.set_cons_zero, List.set_cons_succ])
          refine wpAnyE_take (i := 5) (oi := _) (v := .pointer (some ⟨bT, oT + j, none⟩)) rfl (by kernel_rfl) (by kernel_rfl) (by kernel_rfl) (by kernel_rfl) (fun _ _ _ h => h) (Or.inl ⟨by rfl, ?_⟩) (TStp.refl _ _) ?_
          · intro w' hSw
            have g3 : (j : Int) < turns.length := by omega
            (try simp only [List.getElem_toArray, List.getElem_cons_succ, List.getElem_cons_zero])
            go_simp
          (try simp only [List.getElem_toArray, List.getElem_cons_succ, List.getElem_cons_zero, Act.put, List.setIfInBounds_toArray, List.set_cons_zero, List.set_cons_succ])
          refine wpAnyE_take (i := 6) (oi := _) (v := .int .u8 (x : Nat)) rfl (by kernel_rfl) (by kernel_rfl) (by kernel_rfl) (by kernel_rfl) (fun _ _ _ h => h) (Or.inl ⟨by rfl, ?_⟩) (TStp.refl _ _) ?_
          · intro w' hSw
            have s1 := (hSw.below.cell (p := ⟨bT, _, none⟩) hbB).trans cx
            (try simp at s1)
            (try simp only [List.getElem_toArray, List.getElem_cons_succ, List.getElem_cons_zero])
            go_simp
          (try simp only [List.getElem_toArray, List.getElem_cons_succ, List.getElem_cons_zero, Act.put, List.setIfInBounds_toArray, List.set_cons_zero, List.set_cons_succ])
          refine wpAnyE_take (i := 7) (oi := _) (v := .int .i64 (x : Nat)) rfl (by kernel_rfl) (by kernel_rfl) (by kernel_rfl) (by kernel_rfl) (fun _ _ _ h => h) (Or.inl ⟨by rfl, ?_⟩) (TStp.refl _ _) ?_
          · intro w' hSw
            have hw1 : IntKind.i64.wrap (x : Int) = (x : Int) := IntWalk.i64_in _ (by omega)
            (try simp only [List.getElem_toArray, List.getElem_cons_succ, List.getElem_cons_zero])
            go_simp
          (try simp only [List.getElem_toArray, List.getElem_cons_succ, List.getElem_cons_zero, Act.put, List.setIfInBounds_toArray, List.set_cons_zero, List.set_cons_succ])
          obtain ⟨y, hy⟩ : ∃ y, x % 3 = y := ⟨_, rfl⟩
          have hy3 : y < 3 := by omega
          have HY := Lib.hid hy
          clear hy
          refine wpAnyE_take (i := 8) (oi := _) (v := .int .i64 (y : Nat)) rfl (by kernel_rfl) (by kernel_rfl) (by kernel_rfl) (by kernel_rfl) (fun _ _ _ h => h) (Or.inl ⟨by rfl, ?_⟩) (TStp.refl _ _) ?_
          · intro w' hSw
            (try simp only [List.getElem_toArray, List.getElem_cons_succ, List.getElem_cons_zero])
            go_simp
            (try (rw [Int.tmod_eq_emod_of_nonneg (by omega)]; have hyy := HY.out; omega))
          (try simp only [List.getElem_toArray, List.getElem_cons_succ, List.getElem_cons_zero, Act.put, List.setIfInBounds_toArray, List.set_cons_zero, List.set_cons_succ])
          refine wpAnyE_one (i := 9) (o := _) (by kernel_rfl) rfl (fun K hK => ?_)
          (try simp only [List.getElem_toArray, List.getElem_cons_succ, List.getElem_cons_zero])
          go_simp
          have hd := HD.out ((turns.take j).map (· % 3)) (mod3_in _)
          have hln : ((turns.take j).map (· % 3)).length ≤ 300 := by simp; omega
          (with_reducible refine (turn_q hd HLY.out.1 HLY.out.2 hb5 hy3 (by omega) HN12.out.2 G c _ hr.tr (hr.hO.more hr.big)).mono ?_)
          rintro e v2 ⟨rfl, hT2, hst2⟩
          have hr2 := hr.step hT2 hst2
          have hws : (turns.take j).map (· % 3) ++ [y] = (turns.take (j + 1)).map (· % 3) := by rw [List.take_add_one, HXX.out, List.map_append, ← HY.out]; rfl
          rw [hws] at hr2
          have HR2 := Lib.hid hr2
          clear hd hln hr hT2 hws hr2 cx
          refine hK.out _ _ (fun _ => hst2) ?_
          clear hK K hst2
          (try simp only [List.getElem_toArray, List.getElem_cons_succ, List.getElem_cons_zero, Act.put, List.setIfInBounds_toArray, List.set_cons_zero, List.set_cons_succ])
          refine wpAnyE_done (by kernel_rfl) ?_ _
          have hkk : (j : Int) + 1 ≤ 1000000 := by omega
          go_wp2_with fail
          go_roundw
          case rel => exact ⟨j + 1, by omega, by go_num, HR2.out⟩
          case measure => simp [intOf]; omega
        · obtain rfl : j = turns.length := by omega
          have g1 : decide ((turns.length : Int) < turns.length) = false := by simp
          have HRR := Lib.hid (show LaR B gt bL bQ l t0 k n2 G c (turns.map (· % 3) ++ doneW 60 0) w wr by
            have := hr
            rw [List.take_length] at this
            simpa [doneW] using this)
          clear hr
          go_wp2_with fail
          go_loopw [13, 14, 65, 66, 67, 68, 69, 70, 71, 72, 73, 74, 75, 76, 77] (fun v _ _ _ _ _ _ _ _ _ _ _ _ _ _ wr => La3 B gt bL bQ l t0 k n2 G c turns w v wr) (fun v _ _ _ _ _ _ _ _ _ _ _ _ _ _ _ => 3 - (intOf v).toNat)
          case atStart => exact ⟨0, by omega, rfl, HRR.out⟩
          case round =>
            clear HRR
            obtain ⟨who, hwho, rfl, hr⟩ := hrel
            obtain ⟨dw1, dw2⟩ := doneW_in (K := 60) hwho
            have HDW := Lib.hid (And.intro dw1 dw2)
            clear dw1 dw2
            by_cases hlt : who < 3
            · have g1 : (who : Int) < 3 := by omega
              have HRR := Lib.hid (show LaR B gt bL bQ l t0 k n2 G c (turns.map (· % 3) ++ doneW 60 who ++ List.replicate 0 who) w wr by simpa using hr)
              clear hr
              go_wp2_with fail
              go_loopw [14, 69, 70, 71, 72, 73, 74, 75, 76, 77] (fun i _ _ _ _ _ _ _ _ _ wr => La4 B gt bL bQ l t0 k n2 G c turns who w i wr) (fun i _ _ _ _ _ _ _ _ _ _ => 60 - (intOf i).toNat)
              case atStart => exact ⟨0, by omega, rfl, HRR.out⟩
              case round =>
                clear HRR
                obtain ⟨j, hj, rfl, hr⟩ := hrel
                have hws : ∀ x ∈ turns.map (· % 3) ++ doneW 60 who ++ List.replicate j who, x < 3 := fun x hx => by
                  rcases List.mem_append.1 hx with hx | hx
                  · rcases List.mem_append.1 hx with hx | hx
                    · exact mod3_in _ x hx
                    · exact HDW.out.1 x hx
                  · rw [List.mem_replicate] at hx; omega
                have hd := HD.out _ hws
                have hln : (turns.map (· % 3) ++ doneW 60 who ++ List.replicate j who).length ≤ 5000 := by
                  rw [List.length_append, List.length_append, HDW.out.2, List.length_map, List.length_replicate]
                  omega
                have HRR := Lib.hid (And.intro hr (And.intro hd hln))
                clear hd hln hws hr
                by_cases hlt2 : j < 60
                · have g2 : (j : Int) < 60 := by omega
                  obtain ⟨hr, hd, hln⟩ := HRR.out
                  clear HRR
                  go_wp2_with (first
                    | (refine wpList_load_row rfl 31 (.tmp 9) rfl bL rfl 31 (lyC l) (0, 0) _ hr.kL Try.underlying31 rfl (by kernel_rfl) ?_)
                    | (refine wpList_load_row rfl 25 (.tmp 11) rfl bQ rfl 25 (qC G n2 c) (0, 0) _ hr.kQ Try.underlying25 rfl (by kernel_rfl) ?_))
                  (with_reducible refine (turn_q hd HLY.out.1 HLY.out.2 hb5 hlt (by omega) HN12.out.2 G c _ hr.tr (hr.hO.more hr.big)).mono ?_)
                  rintro e v2 ⟨rfl, hT2, hst2⟩
                  have hr2 := hr.step hT2 hst2
                  rw [List.append_assoc (turns.map (· % 3) ++ doneW 60 who), show List.replicate j who ++ [who] = List.replicate (j + 1) who from (List.replicate_succ' ..).symm] at hr2
                  have HR2 := Lib.hid hr2
                  clear hd hln hr hT2 hst2 hr2
                  go_wp2_with fail
                  go_roundw
                  case rel => exact ⟨j + 1, by omega, by go_num, HR2.out⟩
                  case measure => simp [intOf]; omega
                · obtain rfl : j = 60 := by omega
                  have hr2 := HRR.out.1
                  rw [List.append_assoc, ← doneW_succ] at hr2
                  have HR2 := Lib.hid hr2
                  clear hr2 HRR
                  go_wp2_with fail
                  go_roundw
                  case rel => exact ⟨who + 1, by omega, by go_num, HR2.out⟩
                  case measure => simp [intOf]; omega
            · obtain rfl : who = 3 := by omega
              have hE : LaR B gt bL bQ l t0 k n2 G c (turns.map (· % 3) ++ tailW 60) w wr := by rw [← doneW_three]; exact hr
              clear hr
              have hpl := last_play k hb5 turns h60
              rw [show lastE k turns = runD l (lastQ k) t0 (turns.map (· % 3) ++ tailW 60) by unfold lastE; rw [HL.out.1, HT0.out], HL.out.1, show (l.size.toNat) = SZ by rw [← HL.out.1]; exact HL.out.2] at hpl
              obtain ⟨gm, cm, G2, c2, hsee⟩ := hE.tr.see
              have kL := hE.kL
              have hbl := hE.bl
              obtain ⟨t, ht⟩ : ∃ t, runD l (lastQ k) t0 (turns.map (· % 3) ++ tailW 60) = t := ⟨_, rfl⟩
              rw [ht] at hsee hpl
              clear ht hE
              have HSEE := Lib.hid hsee
              have HE := Lib.hid hpl
              have hlen := hpl.1.len
              have hHL := Lib.hid (And.intro kL hbl)
              clear hpl hsee kL hbl
              generalize wr = w9 at *
              go_wp2_with fail
              go_loopw [15, 16] (fun v15 v16 wr => La5 w9 t.done v15 v16 wr) (fun _ v16 _ => 3 - (intOf v16).toNat)
              case atStart => exact ⟨0, by omega, rfl, rfl, Below.refl _ _⟩
              case round =>
                obtain ⟨j, hj, rfl, rfl, hb⟩ := hrel
                have hsee := HSEE.out.below hb
                have s26 := hsee.c26
                have lt := hsee.lt
                rw [hlen] at s26
                by_cases hlt3 : j < 3
                · have g3 : (j : Int) < 3 := by omega
                  obtain ⟨a, ha⟩ : ∃ a, t.done[j]? = some a := ⟨_, List.getElem?_eq_getElem (by rw [hlen]; exact hlt3)⟩
                  obtain ⟨gD, hG, hgD, hcD⟩ := hsee.dn (by omega)
                  have c8 := hcD j a ha 8 _ rfl
                  have c7 := hcD j a ha 7 _ rfl
                  rw [hG] at s26
                  have htk : t.done.take (j + 1) = t.done.take j ++ [a] := by rw [List.take_add_one, ha]; rfl
                  have hts := takes_step (t.done.take j) a (HE.out.1.kd a (List.mem_of_getElem? ha))
                  rw [← htk] at hts
                  have hm := takes_lt (t.done.take j)
                  rw [List.length_take] at hm
                  have hval : a.is = true → a.val = ((n1 : Nat) : Int) := fun his => by
                    have hmem : a.val ∈ takesOf t.done := by
                      unfold takesOf
                      refine List.mem_map.2 ⟨a, List.mem_filter.2 ⟨List.mem_of_getElem? ha, ?_⟩, rfl⟩
                      have := HE.out.1.kd a (List.mem_of_getElem? ha)
                      simp [his, this]
                    rw [HE.out.1.tk, List.mem_singleton] at hmem
                    rw [hmem, HN12.out.1]
                  have HTS := Lib.hid (And.intro hts hval)
                  have HB := Lib.hid hb
                  clear hsee hG hcD htk hts hb ha hval
                  obtain ⟨a_who, ⟨a_k, a_j, a_a, a_b⟩, a_fi, a_la, a_val, a_is, a_err, a_pt⟩ := a
                  dsimp only at c8 c7
                  generalize hT0e : (takesOf (t.done.take j)).length = TN at *
                  cases a_is with
                  | false =>
                    have HR := Lib.hid (show La5 w9 t.done (.int .i64 (TN : Nat)) (.int .i64 ((j + 1 : Nat) : Int)) wr from ⟨j + 1, by omega, rfl, by rw [HTS.out.1]; simp [hT0e], HB.out⟩)
                    clear hT0e
                    go_wp2_with fail
                    go_roundw
                    case rel => exact HR.out
                    case measure => simp [intOf]; omega
                  | true =>
                    have hva := HTS.out.2 rfl
                    dsimp only at hva
                    subst hva
                    have HR := Lib.hid (show La5 w9 t.done (.int .i64 ((TN + 1 : Nat) : Int)) (.int .i64 ((j + 1 : Nat) : Int)) wr from ⟨j + 1, by omega, rfl, by rw [HTS.out.1]; simp [hT0e], HB.out⟩)
                    clear hT0e
                    have e1 : ((n1 : Int) != n1) = false := by simp
                    have e2 : decide ((n1 : Int) ≠ n1) = false := by simp
                    go_wp2_with fail
                    go_roundw
                    case rel => exact HR.out
                    case measure => simp [intOf]; omega
                · obtain rfl : j = 3 := by omega
                  have e3 : t.done.take 3 = t.done := by rw [← hlen]; exact List.take_length
                  have e4 : (takesOf t.done).length = 1 := by rw [HE.out.1.tk]; rfl
                  rw [e3, e4]
                  have hbad := HE.out.2.bd
                  have hrow := HE.out.2.row HLY.out.1
                  have hml := hrow.ml
                  have hmem := hsee.mem
                  rw [hml] at hmem
                  have hLc := HE.out.1.row
                  clear e3 e4
                  replace hbl := below_tr hHL.out.2 hb
                  have kL := hHL.out.1.keep hb
                  have HROW := Lib.hid hrow
                  have HC := Lib.hid (And.intro hsee.c0 (And.intro hsee.c26 hsee.c27))
                  clear hsee hrow HSEE HE hHL
                  go_upto_region 33 with fail
                  clear s26
                  refine wp_region_E (S := fun w' => Below wr.drew.heap.size wr.drew w') (E := fun _ => false) (by kernel_rfl) ?_
                  replace kL := kL.drew
                  replace hbl := hbl.drew
                  have s0 : wr.drew.cell? ⟨gt, 0, none⟩ = _ := HC.out.1
                  have s26 : wr.drew.cell? ⟨gt, 26, none⟩ = _ := HC.out.2.1
                  have s27 : wr.drew.cell? ⟨gt, 27, none⟩ = _ := HC.out.2.2
                  rw [hml] at s0
                  rw [hlen] at s26
                  rw [hbad] at s27
                  replace hmem : Sl wr.drew wr.drew.heap.size (some ⟨gm, 0, none⟩) SZ (ints t.m) := hmem.drew
                  clear HC
                  generalize wr.drew = v1 at *
                  refine wpAnyE_take (i := 0) (oi := _) (v := .bool true) rfl (by kernel_rfl) (by kernel_rfl) (by kernel_rfl) (by kernel_rfl) (fun _ _ _ h => h) (Or.inl ⟨by rfl, ?_⟩) (Below.refl _ _) ?_
                  · intro w' hSw
                    (try simp only [List.getElem_toArray, List.getElem_cons_zero])
                    go_simp
                  (try simp only [List.getElem_toArray, List.getElem_cons_zero, Act.put, List.setIfInBounds_toArray, List.set_cons_zero, List.set_cons_succ])
                  refine wpAnyE_take (i := 1) (oi := _) (v := .bool true) rfl (by kernel_rfl) (by kernel_rfl) (by kernel_rfl) (by kernel_rfl) (fun _ _ _ h => h) (Or.inl ⟨by rfl, ?_⟩) (Below.refl _ _) ?_
                  · intro w' hSw
                    (try simp only [List.getElem_toArray, List.getElem_cons_succ, List.getElem_cons_zero])
                    go_simp
                  (try simp only [List.getElem_toArray, List.getElem_cons_succ, List.getElem_cons_zero, Act.put, List.setIfInBounds_toArray, List.set_cons_zero, List.set_cons_succ])
                  refine wpAnyE_take (i := 2) (oi := _) (v := .pointer (some ⟨gt, 0, none⟩)) rfl (by kernel_rfl) (by kernel_rfl) (by kernel_rfl) (by kernel_rfl) (fun _ _ _ h => h) (Or.inl ⟨by rfl, ?_⟩) (Below.refl _ _) ?_
                  · intro w' hSw
                    (try simp only [List.getElem_toArray, List.getElem_cons_succ, List.getElem_cons_zero])
                    go_simp
                  (try simp only [List.getElem_toArray, List.getElem_cons_succ, List.getElem_cons_zero, Act.put, List.setIfInBounds_toArray, List.set_cons_zero, List.set_cons_succ])
                  refine wpAnyE_take (i := 3) (oi := _) (v := .pointer (some ⟨gt, 0, none⟩)) rfl (by kernel_rfl) (by kernel_rfl) (by kernel_rfl) (by kernel_rfl) (fun _ _ _ h => h) (Or.inl ⟨by rfl, ?_⟩) (Below.refl _ _) ?_
                  · intro w' hSw
                    (try simp only [List.getElem_toArray, List.getElem_cons_succ, List.getElem_cons_zero])
                    go_simp
                  (try simp only [List.getElem_toArray, List.getElem_cons_succ, List.getElem_cons_zero, Act.put, List.setIfInBounds_toArray, List.set_cons_zero, List.set_cons_succ])
                  refine wpAnyE_take (i := 4) (oi := _) (v := .pointer (some ⟨gt, 26, none⟩)) rfl (by kernel_rfl) (by kernel_rfl) (by kernel_rfl) (by kernel_rfl) (fun _ _ _ h => h) (Or.inl ⟨by rfl, ?_⟩) (Below.refl _ _) ?_
                  · intro w' hSw
                    (try simp only [List.getElem_toArray, List.getElem_cons_succ, List.getElem_cons_zero])
                    go_simp
                  (try simp only [List.getElem_toArray, List.getElem_cons_succ, List.getElem_cons_zero, Act.put, List.setIfInBounds_toArray, List.set_cons_zero, List.set_cons_succ])
                  refine wpAnyE_take (i := 5) (oi := _) (v := .slice G2 3 c2) rfl (by kernel_rfl) (by kernel_rfl) (by kernel_rfl) (by kernel_rfl) (fun _ _ _ h => h) (Or.inl ⟨by rfl, ?_⟩) (Below.refl _ _) ?_
                  · intro w' hSw
                    have s1 := cell_keep hSw s26
                    (try simp at s1)
                    (try simp only [List.getElem_toArray, List.getElem_cons_succ, List.getElem_cons_zero])
                    go_simp
                  (try simp only [List.getElem_toArray, List.getElem_cons_succ, List.getElem_cons_zero, Act.put, List.setIfInBounds_toArray, List.set_cons_zero, List.set_cons_succ])
                  refine wpAnyE_take (i := 6) (oi := _) (v := .int .i64 3) rfl (by kernel_rfl) (by kernel_rfl) (by kernel_rfl) (by kernel_rfl) (fun _ _ _ h => h) (Or.inl ⟨by rfl, ?_⟩) (Below.refl _ _) ?_
                  · intro w' hSw
                    (try simp only [List.getElem_toArray, List.getElem_cons_succ, List.getElem_cons_zero])
                    go_simp
                  (try simp only [List.getElem_toArray, List.getElem_cons_succ, List.getElem_cons_zero, Act.put, List.setIfInBounds_toArray, List.set_cons_zero, List.set_cons_succ])
                  refine wpAnyE_take (i := 7) (oi := _) (v := .bool true) rfl (by kernel_rfl) (by kernel_rfl) (by kernel_rfl) (by kernel_rfl) (fun _ _ _ h => h) (Or.inl ⟨by rfl, ?_⟩) (Below.refl _ _) ?_
                  · intro w' hSw
                    (try simp only [List.getElem_toArray, List.getElem_cons_succ, List.getElem_cons_zero])
                    go_simp
                  (try simp only [List.getElem_toArray, List.getElem_cons_succ, List.getElem_cons_zero, Act.put, List.setIfInBounds_toArray, List.set_cons_zero, List.set_cons_succ])
                  refine wpAnyE_take (i := 8) (oi := _) (v := .bool true) rfl (by kernel_rfl) (by kernel_rfl) (by kernel_rfl) (by kernel_rfl) (fun _ _ _ h => h) (Or.inl ⟨by rfl, ?_⟩) (Below.refl _ _) ?_
                  · intro w' hSw
                    (try simp only [List.getElem_toArray, List.getElem_cons_succ, List.getElem_cons_zero])
                    go_simp
                  (try simp only [List.getElem_toArray, List.getElem_cons_succ, List.getElem_cons_zero, Act.put, List.setIfInBounds_toArray, List.set_cons_zero, List.set_cons_succ])
                  refine wpAnyE_take (i := 9) (oi := _) (v := .bool true) rfl (by kernel_rfl) (by kernel_rfl) (by kernel_rfl) (by kernel_rfl) (fun _ _ _ h => h) (Or.inl ⟨by rfl, ?_⟩) (Below.refl _ _) ?_
                  · intro w' hSw
                    (try simp only [List.getElem_toArray, List.getElem_cons_succ, List.getElem_cons_zero])
                    go_simp
                  (try simp only [List.getElem_toArray, List.getElem_cons_succ, List.getElem_cons_zero, Act.put, List.setIfInBounds_toArray, List.set_cons_zero, List.set_cons_succ])
                  refine wpAnyE_take (i := 10) (oi := _) (v := .int .i64 1) rfl (by kernel_rfl) (by kernel_rfl) (by kernel_rfl) (by kernel_rfl) (fun _ _ _ h => h) (Or.inl ⟨by rfl, ?_⟩) (Below.refl _ _) ?_
                  · intro w' hSw
                    (try simp only [List.getElem_toArray, List.getElem_cons_succ, List.getElem_cons_zero])
                    go_simp
                  (try simp only [List.getElem_toArray, List.getElem_cons_succ, List.getElem_cons_zero, Act.put, List.setIfInBounds_toArray, List.set_cons_zero, List.set_cons_succ])
                  refine wpAnyE_take (i := 11) (oi := _) (v := .bool true) rfl (by kernel_rfl) (by kernel_rfl) (by kernel_rfl) (by kernel_rfl) (fun _ _ _ h => h) (Or.inl ⟨by rfl, ?_⟩) (Below.refl _ _) ?_
                  · intro w' hSw
                    (try simp only [List.getElem_toArray, List.getElem_cons_succ, List.getElem_cons_zero])
                    go_simp
                  (try simp only [List.getElem_toArray, List.getElem_cons_succ, List.getElem_cons_zero, Act.put, List.setIfInBounds_toArray, List.set_cons_zero, List.set_cons_succ])
                  refine wpAnyE_take (i := 12) (oi := _) (v := .bool true) rfl (by kernel_rfl) (by kernel_rfl) (by kernel_rfl) (by kernel_rfl) (fun _ _ _ h => h) (Or.inl ⟨by rfl, ?_⟩) (Below.refl _ _) ?_
                  · intro w' hSw
                    (try simp only [List.getElem_toArray, List.getElem_cons_succ, List.getElem_cons_zero])
                    go_simp
                  (try simp only [List.getElem_toArray, List.getElem_cons_succ, List.getElem_cons_zero, Act.put, List.setIfInBounds_toArray, List.set_cons_zero, List.set_cons_succ])
                  refine wpAnyE_take (i := 13) (oi := _) (v := .bool true) rfl (by kernel_rfl) (by kernel_rfl) (by kernel_rfl) (by kernel_rfl) (fun _ _ _ h => h) (Or.inl ⟨by rfl, ?_⟩) (Below.refl _ _) ?_
                  · intro w' hSw
                    (try simp only [List.getElem_toArray, List.getElem_cons_succ, List.getElem_cons_zero])
                    go_simp
                  (try simp only [List.getElem_toArray, List.getElem_cons_succ, List.getElem_cons_zero, Act.put, List.setIfInBounds_toArray, List.set_cons_zero, List.set_cons_succ])
                  refine wpAnyE_take (i := 14) (oi := _) (v := .agg (lyC l)) rfl (by kernel_rfl) (by kernel_rfl) (by kernel_rfl) (by kernel_rfl) (fun _ _ _ h => h) (Or.inl ⟨by rfl, ?_⟩) (Below.refl _ _) ?_
                  · intro w' hSw
                    (try simp only [List.getElem_toArray, List.getElem_cons_succ, List.getElem_cons_zero])
                    simp only [execOp, Instr.loadAt, Instr.sureAddr, Sem.run_bind, Sem.run_pure]
                    rw [show (Act.eval _ (Operand.tmp 9)) = Value.pointer (some ⟨bL, 0, none⟩) from rfl]
                    simp only [Sem.run_pure, Result.andThen_ok, run_loadVar_row w' bL 31 31 (lyC l) (0, 0) _ (kL.keep hSw) Try.underlying31 rfl (by kernel_rfl)]
                  (try simp only [List.getElem_toArray, List.getElem_cons_succ, List.getElem_cons_zero, Act.put, List.setIfInBounds_toArray, List.set_cons_zero, List.set_cons_succ])
                  refine wpAnyE_take (i := 15) (oi := _) (v := .pointer (some ⟨gt, 0, none⟩)) rfl (by kernel_rfl) (by kernel_rfl) (by kernel_rfl) (by kernel_rfl) (fun _ _ _ h => h) (Or.inl ⟨by rfl, ?_⟩) (Below.refl _ _) ?_
                  · intro w' hSw
                    (try simp only [List.getElem_toArray, List.getElem_cons_succ, List.getElem_cons_zero])
                    go_simp
                  (try simp only [List.getElem_toArray, List.getElem_cons_succ, List.getElem_cons_zero, Act.put, List.setIfInBounds_toArray, List.set_cons_zero, List.set_cons_succ])
                  refine wpAnyE_take (i := 16) (oi := _) (v := .pointer (some ⟨gt, 0, none⟩)) rfl (by kernel_rfl) (by kernel_rfl) (by kernel_rfl) (by kernel_rfl) (fun _ _ _ h => h) (Or.inl ⟨by rfl, ?_⟩) (Below.refl _ _) ?_
                  · intro w' hSw
                    (try simp only [List.getElem_toArray, List.getElem_cons_succ, List.getElem_cons_zero])
                    go_simp
                  (try simp only [List.getElem_toArray, List.getElem_cons_succ, List.getElem_cons_zero, Act.put, List.setIfInBounds_toArray, List.set_cons_zero, List.set_cons_succ])
                  refine wpAnyE_take (i := 17) (oi := _) (v := .pointer (some ⟨gt, 0, none⟩)) rfl (by kernel_rfl) (by kernel_rfl) (by kernel_rfl) (by kernel_rfl) (fun _ _ _ h => h) (Or.inl ⟨by rfl, ?_⟩) (Below.refl _ _) ?_
                  · intro w' hSw
                    (try simp only [List.getElem_toArray, List.getElem_cons_succ, List.getElem_cons_zero])
                    go_simp
                  (try simp only [List.getElem_toArray, List.getElem_cons_succ, List.getElem_cons_zero, Act.put, List.setIfInBounds_toArray, List.set_cons_zero, List.set_cons_succ])
                  refine wpAnyE_take (i := 18) (oi := _) (v := .agg #[.slice (some ⟨gm, 0, none⟩) SZ cm]) rfl (by kernel_rfl) (by kernel_rfl) (by kernel_rfl) (by kernel_rfl) (fun _ _ _ h => h) (Or.inl ⟨by rfl, ?_⟩) (Below.refl _ _) ?_
                  · intro w' hSw
                    have s1 := cell_keep hSw s0
                    (try simp at s1)
                    (try simp only [List.getElem_toArray, List.getElem_cons_succ, List.getElem_cons_zero])
                    go_simp
                  (try simp only [List.getElem_toArray, List.getElem_cons_succ, List.getElem_cons_zero, Act.put, List.setIfInBounds_toArray, List.set_cons_zero, List.set_cons_succ])
                  refine wpAnyE_one (i := 19) (o := _) (by kernel_rfl) rfl (fun K hK => ?_)
                  (try simp only [List.getElem_toArray, List.getElem_cons_succ, List.getElem_cons_zero])
                  go_simp
                  (with_reducible refine (rrow_any l SZ t.m (some ⟨gm, 0, none⟩) cm SZ _ HLY.out.1 HLY.out.2 HROW.out hml hmem (by omega)).mono ?_)
                  rintro e v2 ⟨A, cr, rfl, hown, hb1⟩
                  rw [hLc] at hown ⊢
                  refine hK.out _ _ (fun _ => hb1) ?_
                  clear hK K
                  (try simp only [List.getElem_toArray, List.getElem_cons_succ, List.getElem_cons_zero, Act.put, List.setIfInBounds_toArray, List.set_cons_zero, List.set_cons_succ])
                  refine wpAnyE_take (i := 20) (oi := _) (v := .int .i64 0) rfl (by kernel_rfl) (by kernel_rfl) (by kernel_rfl) (by kernel_rfl) (fun _ _ _ h => h) (Or.inl ⟨by rfl, ?_⟩) hb1 ?_
                  · intro w' hSw
                    (try simp only [List.getElem_toArray, List.getElem_cons_succ, List.getElem_cons_zero])
                    go_simp
                  (try simp only [List.getElem_toArray, List.getElem_cons_succ, List.getElem_cons_zero, Act.put, List.setIfInBounds_toArray, List.set_cons_zero, List.set_cons_succ])
                  refine wpAnyE_take (i := 21) (oi := _) (v := .bool true) rfl (by kernel_rfl) (by kernel_rfl) (by kernel_rfl) (by kernel_rfl) (fun _ _ _ h => h) (Or.inl ⟨by rfl, ?_⟩) hb1 ?_
                  · intro w' hSw
                    (try simp only [List.getElem_toArray, List.getElem_cons_succ, List.getElem_cons_zero])
                    go_simp
                  (try simp only [List.getElem_toArray, List.getElem_cons_succ, List.getElem_cons_zero, Act.put, List.setIfInBounds_toArray, List.set_cons_zero, List.set_cons_succ])
                  refine wpAnyE_take (i := 22) (oi := _) (v := .bool true) rfl (by kernel_rfl) (by kernel_rfl) (by kernel_rfl) (by kernel_rfl) (fun _ _ _ h => h) (Or.inl ⟨by rfl, ?_⟩) hb1 ?_
                  · intro w' hSw
                    (try simp only [List.getElem_toArray, List.getElem_cons_succ, List.getElem_cons_zero])
                    go_simp
                  (try simp only [List.getElem_toArray, List.getElem_cons_succ, List.getElem_cons_zero, Act.put, List.setIfInBounds_toArray, List.set_cons_zero, List.set_cons_succ])
                  refine wpAnyE_take (i := 23) (oi := _) (v := .bool true) rfl (by kernel_rfl) (by kernel_rfl) (by kernel_rfl) (by kernel_rfl) (fun _ _ _ h => h) (Or.inl ⟨by rfl, ?_⟩) hb1 ?_
                  · intro w' hSw
                    (try simp only [List.getElem_toArray, List.getElem_cons_succ, List.getElem_cons_zero])
                    go_simp
                  (try simp only [List.getElem_toArray, List.getElem_cons_succ, List.getElem_cons_zero, Act.put, List.setIfInBounds_toArray, List.set_cons_zero, List.set_cons_succ])
                  refine wpAnyE_take (i := 24) (oi := _) (v := .pointer (some ⟨gt, 0, none⟩)) rfl (by kernel_rfl) (by kernel_rfl) (by kernel_rfl) (by kernel_rfl) (fun _ _ _ h => h) (Or.inl ⟨by rfl, ?_⟩) hb1 ?_
                  · intro w' hSw
                    (try simp only [List.getElem_toArray, List.getElem_cons_succ, List.getElem_cons_zero])
                    go_simp
                  (try simp only [List.getElem_toArray, List.getElem_cons_succ, List.getElem_cons_zero, Act.put, List.setIfInBounds_toArray, List.set_cons_zero, List.set_cons_succ])
                  refine wpAnyE_take (i := 25) (oi := _) (v := .pointer (some ⟨gt, 0, none⟩)) rfl (by kernel_rfl) (by kernel_rfl) (by kernel_rfl) (by kernel_rfl) (fun _ _ _ h => h) (Or.inl ⟨by rfl, ?_⟩) hb1 ?_
                  · intro w' hSw
                    (try simp only [List.getElem_toArray, List.getElem_cons_succ, List.getElem_cons_zero])
                    go_simp
                  (try simp only [List.getElem_toArray, List.getElem_cons_succ, List.getElem_cons_zero, Act.put, List.setIfInBounds_toArray, List.set_cons_zero, List.set_cons_succ])
                  refine wpAnyE_take (i := 26) (oi := _) (v := .pointer (some ⟨gt, 27, none⟩)) rfl (by kernel_rfl) (by kernel_rfl) (by kernel_rfl) (by kernel_rfl) (fun _ _ _ h => h) (Or.inl ⟨by rfl, ?_⟩) hb1 ?_
                  · intro w' hSw
                    (try simp only [List.getElem_toArray, List.getElem_cons_succ, List.getElem_cons_zero])
                    go_simp
                  (try simp only [List.getElem_toArray, List.getElem_cons_succ, List.getElem_cons_zero, Act.put, List.setIfInBounds_toArray, List.set_cons_zero, List.set_cons_succ])
                  refine wpAnyE_take (i := 27) (oi := _) (v := .bool false) rfl (by kernel_rfl) (by kernel_rfl) (by kernel_rfl) (by kernel_rfl) (fun _ _ _ h => h) (Or.inl ⟨by rfl, ?_⟩) hb1 ?_
                  · intro w' hSw
                    have s1 := cell_keep hSw s27
                    (try simp at s1)
                    (try simp only [List.getElem_toArray, List.getElem_cons_succ, List.getElem_cons_zero])
                    go_simp
                  (try simp only [List.getElem_toArray, List.getElem_cons_succ, List.getElem_cons_zero, Act.put, List.setIfInBounds_toArray, List.set_cons_zero, List.set_cons_succ])
                  refine wpAnyE_take (i := 28) (oi := _) (v := .bool true) rfl (by kernel_rfl) (by kernel_rfl) (by kernel_rfl) (by kernel_rfl) (fun _ _ _ h => h) (Or.inl ⟨by rfl, ?_⟩) hb1 ?_
                  · intro w' hSw
                    (try simp only [List.getElem_toArray, List.getElem_cons_succ, List.getElem_cons_zero])
                    go_simp
                  (try simp only [List.getElem_toArray, List.getElem_cons_succ, List.getElem_cons_zero, Act.put, List.setIfInBounds_toArray, List.set_cons_zero, List.set_cons_succ])
                  refine wpAnyE_take (i := 29) (oi := _) (v := .bool true) rfl (by kernel_rfl) (by kernel_rfl) (by kernel_rfl) (by kernel_rfl) (fun _ _ _ h => h) (Or.inl ⟨by rfl, ?_⟩) hb1 ?_
                  · intro w' hSw
                    (try simp only [List.getElem_toArray, List.getElem_cons_succ, List.getElem_cons_zero])
                    go_simp
                  (try simp only [List.getElem_toArray, List.getElem_cons_succ, List.getElem_cons_zero, Act.put, List.setIfInBounds_toArray, List.set_cons_zero, List.set_cons_succ])
                  refine wpAnyE_take (i := 30) (oi := _) (v := .bool true) rfl (by kernel_rfl) (by kernel_rfl) (by kernel_rfl) (by kernel_rfl) (fun _ _ _ h => h) (Or.inl ⟨by rfl, ?_⟩) hb1 ?_
                  · intro w' hSw
                    (try simp only [List.getElem_toArray, List.getElem_cons_succ, List.getElem_cons_zero])
                    go_simp
                  (try simp only [List.getElem_toArray, List.getElem_cons_succ, List.getElem_cons_zero, Act.put, List.setIfInBounds_toArray, List.set_cons_zero, List.set_cons_succ])
                  refine wpAnyE_done (by kernel_rfl) ?_ _
                  replace hbl := below_tr hbl hb1
                  go_wp2_with fail
                  go_ret
                  exact ⟨rfl, hbl⟩
end Go.Proofs.Ytdjglkpcdhkodaa
