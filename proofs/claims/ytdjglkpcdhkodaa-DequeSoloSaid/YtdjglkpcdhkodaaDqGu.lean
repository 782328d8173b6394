/- DequeSolo. Printed by dqsolo_gen.py. -/
import Derived.Test.YtdjglkpcdhkodaaDqF
import Derived.Test.YtdjglkpcdhkodaaDqSo
namespace Go.Proofs.Ytdjglkpcdhkodaa
open Go.RowKit
set_option linter.unusedVariables false
attribute [local go_sem ↓] Go.wp_at_zero Go.wp_at_succ

theorem where_tk (tk : Int) (w : World) (t0 : 0 ≤ tk) (t1 : tk < 256) : Calls Try.prog 10 #[.agg #[.slice none 0 0, .int .u8 0, .int .u8 0, .int .u8 tk, .slice none 0 0]] w (LyBelow (playL tk) w) := where_any none 0 0 0 0 tk none 0 0 w t0 t1
/-- What is there between operations. -/
structure SoW (w wr : World) (bL bM : Nat) (l : Ly) (sz : Nat) (m row : List Int) (A : Option Addr) (n c gm cm : Nat) : Prop where
  bl : Below w.heap.size w wr
  kL : Bk wr bL 31 (lyC l)
  kM : Bk wr bM 37 #[.slice (some ⟨gm, 0, none⟩) sz cm]
  om : OwnInts wr w.heap.size (.slice (some ⟨gm, 0, none⟩) sz cm) m
  qu : Que wr w.heap.size A n c row
  ne : ∀ a, A = some a → a.block ≠ gm
  bM : w.heap.size ≤ bM
theorem SoW.keep {w wr w' : World} {bL bM : Nat} {l : Ly} {sz : Nat} {m row : List Int} {A : Option Addr} {n c gm cm : Nat} (h : SoW w wr bL bM l sz m row A n c gm cm) (hb : Below wr.heap.size wr w') : SoW w w' bL bM l sz m row A n c gm cm :=
  ⟨below_tr h.bl hb, h.kL.keep hb, h.kM.keep hb, own_keepb' h.om hb, h.qu.keep hb, h.ne, h.bM⟩
/-- The room of the last ring. -/
def RoomR (T : Int) (w : World) (v : Value) (wr : World) : Prop := wr = w ∧ ∃ x : Nat, v = .int .i64 x ∧ (x = 4 ∨ (x = 8 ∧ 4 < T) ∨ (x = 16 ∧ 8 < T))
theorem room_end {T : Int} {x : Nat} (h1 : 1 ≤ T) (h2 : T ≤ 16) (hx : x = 4 ∨ (x = 8 ∧ 4 < T) ∨ (x = 16 ∧ 8 < T)) (he : T ≤ x) : (x : Int) = sizeN (ringsN T - 1) := by
  rcases rings_cases h1 h2 with ⟨e, _⟩ | ⟨e, _⟩ | ⟨e, _⟩
  all_goals
    rw [e]
    unfold ringsN at e
    rcases hx with rfl | ⟨rfl, h⟩ | ⟨rfl, h⟩
    all_goals repeat' split at e
    all_goals first | rfl | omega
def SoR (l : Ly) (sz bL bM : Nat) (ops : List Nat) (w : World) (v9 v10 v11 : Value) (wr : World) : Prop :=
  ∃ (i : Nat) (m row : List Int) (size : Int) (A : Option Addr) (n c gm cm : Nat), i ≤ ops.length ∧ v9 = .int .i64 size ∧ v10 = .slice A n c ∧ v11 = .int .i64 i ∧ SoI l sz i m row size ∧ SoW w wr bL bM l sz m row A n c gm cm
theorem SoI.more {l : Ly} {sz n n' : Nat} {m row : List Int} {size : Int} (h : SoI l sz n m row size) (hn : n ≤ n') : SoI l sz n' m row size :=
  ⟨h.ml, h.t0, h.tb, h.r0, h.sz, by have := h.bn; omega, h.row, h.se, h.inb⟩
theorem own_some {w : World} {B n c : Nat} {A : Option Addr} {m : List Int} (h : OwnInts w B (.slice A n c) m) (hn : 0 < m.length) : ∃ g, A = some ⟨g, 0, none⟩ ∧ B ≤ g := by
  rcases h.2 with ⟨_, h0⟩ | ⟨g, cap, cur, h1, h2, _⟩
  · omega
  · injection h1 with h1 _ _
    exact ⟨g, h1, h2⟩
theorem own_lt {w : World} {B n c g k : Nat} {xs : List Value} (h : w.ownsRow B 3 1 (.slice (some ⟨g, 0, none⟩) n c) k xs) : g < w.heap.size := by
  rcases h.2 with ⟨h1, _⟩ | ⟨g', cap, cur, h1, _, h3, _⟩
  · cases h1
  · injection h1 with h1 _ _
    injection h1 with h1
    injection h1 with h1 _
    subst h1
    exact (Array.getElem?_eq_some_iff.1 h3).1
theorem own_at {w w' : World} {B n c g : Nat} {m : List Int} (h : OwnInts w B (.slice (some ⟨g, 0, none⟩) n c) m) (hg : w'.heap[g]? = w.heap[g]?) : OwnInts w' B (.slice (some ⟨g, 0, none⟩) n c) m := by
  refine ⟨h.1, ?_⟩
  rcases h.2 with ⟨h1, _⟩ | ⟨g', cap, cur, h1, h2, h3, h4⟩
  · cases h1
  · have h0 := h1
    injection h1 with h1 _ _
    injection h1 with h1
    injection h1 with h1 _
    subst h1
    exact .inr ⟨_, cap, cur, h0, h2, hg.trans h3, h4⟩
theorem alone_s {l : Ly} {op : Opr} {m : List Int} {K sz B : Nat} {val : Int} {is : Bool} {err pt : Int} {A : Option Addr} {c : Nat} {m' : List Int} (w : World) (f : DqLy l) (hk : op.kind = 8 ∨ op.kind = 9 ∨ op.kind = 10) (ho : op.obj = 0) (hr : ARun l op m K val is err pt) (h0 : 0 < K) (hn : m.length = sz) (hm : sz ≤ 1000) (hs : 28 ≤ sz) (hA : OwnInts w B (.slice A sz c) m) (e' : (aloneS l op m K).1 = m') :
    Calls Try.prog 15 #[.agg (lyC l), .agg #[.slice A sz c], .agg (oprC op)] w (fun e w' => ∃ g c', e = .returned (.tuple #[.agg (outC val is err pt), .agg #[.slice (some ⟨g, 0, none⟩) sz c'], .int .i64 (K : Nat)]) ∧ w.heap.size ≤ g ∧ OwnInts w' w.heap.size (.slice (some ⟨g, 0, none⟩) sz c') m' ∧ Below w.heap.size w w') := by
  subst hn
  refine (alone_any l op m K val is err pt A c w f hk ho hr (by omega) (own_sl hA rfl)).mono ?_
  rintro e w' ⟨A', c', rfl, h1, h2⟩
  have hl := aloneS_ml l op m K
  rw [e'] at h1 hl ⊢
  rw [hl] at h1 ⊢
  obtain ⟨g, rfl, hg⟩ := own_some (h1 h0) (by omega)
  exact ⟨g, c', rfl, hg, h1 h0, h2⟩
theorem own_cells' {w : World} {B n c : Nat} {A : Option Addr} {zs : List Int} (h : OwnInts w B (.slice A n c) zs) (hn : zs.length = n) : ∃ gR cur, (0 < n → A = some ⟨gR, 0, none⟩ ∧ Bk w gR 3 cur) ∧ B ≤ gR ∧ ∀ (k : Nat) (r : Int), zs[k]? = some r → cur[k]? = some (.int .i64 r) := by
  rcases h.2 with ⟨_, h0⟩ | ⟨g, cap, cur, h1, h2, h3, _, _, _, h4⟩
  · exact ⟨B, #[], fun h => by omega, Nat.le_refl _, fun k r hk => by
      have := (List.getElem?_eq_some_iff.1 hk).1
      omega⟩
  · injection h1 with h1 _ _
    refine ⟨g, cur, fun _ => ⟨h1, h3⟩, h2, fun k r hk => ?_⟩
    have h5 : (ints zs)[k]? = some (.int .i64 r) := by simp [ints, hk]
    rw [← h4, List.getElem?_take] at h5
    split at h5
    · simpa using h5
    · cases h5
theorem same_s {m : List Int} {sz B B' : Nat} {A A' : Option Addr} {c c' : Nat} {w : World} (h : OwnInts w B (.slice A sz c) m) (h' : OwnInts w B' (.slice A' sz c') m) (hn : m.length = sz) (hs : sz ≤ 1000) :
    Calls Try.prog 16 #[memV A sz c, memV A' sz c'] w (BoolBelow true w) := by
  subst hn
  have h1 := rsame_any A A' c c' m m w (own_sl h rfl) (own_sl h' rfl) (by omega) (by omega)
  rw [show decide (m = m) = true by simp] at h1
  exact h1
theorem row_s {l : Ly} {sz n : Nat} {m row : List Int} {size : Int} {B : Nat} {A : Option Addr} {c : Nat} {w : World} (ly : DLay l sz) (f : DqLy l) (h : SoI l sz n m row size) (hn : n ≤ 1000) (hA : OwnInts w B (.slice A sz c) m) (hs : sz ≤ 1000) :
    Calls Try.prog 12 #[.agg (lyC l), .agg #[.slice A sz c], .int .i64 0] w (fun e w' => ∃ A' c', e = .returned (.slice A' row.length c') ∧ SlInt w' w'.heap.size A' row ∧ Below w.heap.size w w') := by
  refine (rrow_any l sz m A c sz w ly f (h.rowOk hn) h.ml (own_sl hA h.ml) (by omega)).mono ?_
  rintro e w' ⟨A', c', rfl, h1, h2⟩
  rw [h.row] at h1 ⊢
  refine ⟨A', c', rfl, ?_, h2⟩
  intro hl
  obtain ⟨gR, cur, hrA, hrB, hrC⟩ := own_cells' h1 rfl
  obtain ⟨e1, k1⟩ := hrA hl
  exact ⟨gR, 0, e1, k1.lt, fun k r hr => by rw [Nat.zero_add, k1.cell]; exact hrC k r hr⟩
theorem ints_s {xs : List Int} {n : Nat} {A A' : Option Addr} {c c' : Nat} {w : World} (h : SlInt w w.heap.size A xs) (h' : SlInt w w.heap.size A' xs) (hn : xs.length = n) (hs : n ≤ 1000) :
    Calls Try.prog 17 #[.slice A n c, .slice A' n c'] w (BoolBelow true w) := by
  subst hn
  have h1 := ints_any A A' c c' xs xs w h h' (by omega) (by omega)
  rw [show decide (xs = xs) = true by simp] at h1
  exact h1
/-- What is there behind an operation, with the memory that it made. -/
theorem SoW.next {w wr : World} {bL bM : Nat} {l : Ly} {sz : Nat} {m2 row : List Int} {A : Option Addr} {n c gm cm g2 c2 : Nat} (bl : Below w.heap.size w wr) (kL : Bk wr bL 31 (lyC l)) (kM : Bk wr bM 37 #[.slice (some ⟨gm, 0, none⟩) sz cm]) (om : OwnInts wr w.heap.size (.slice (some ⟨g2, 0, none⟩) sz c2) m2) (qu : Que wr w.heap.size A n c row) (ne : ∀ a, A = some a → a.block ≠ g2) (hbM : w.heap.size ≤ bM) :
    SoW w (wr.setCell ⟨bM, 0, none⟩ (.slice (some ⟨g2, 0, none⟩) sz c2)) bL bM l sz m2 row A n c g2 c2 := by
  have hk := keptT_set kM 0 (.slice (some ⟨g2, 0, none⟩) sz c2)
  refine ⟨bl.setCell (p := ⟨bM, 0, none⟩) hbM _, hk _ _ _ _ kL (by decide), by have := kM.stored 0 (.slice (some ⟨g2, 0, none⟩) sz c2); simpa using this, own_keptT (show World.ownsRow wr w.heap.size 3 1 (.slice (some ⟨g2, 0, none⟩) sz c2) m2.length (ints m2) from om) hk (by decide), ⟨qu.1, qu.2.1, ?_⟩, ne, hbM⟩
  rcases qu.2.2 with h1 | ⟨g, o, cur, h1, h2, h3, h4⟩
  · exact .inl h1
  · exact .inr ⟨g, o, cur, h1, h2, hk _ _ _ _ h3 (by decide), h4⟩
theorem below_setRow1 {B : Nat} {w : World} {g : Nat} (hg : B ≤ g) (cs : Array Value) : Below B w (w.setRow g cs) :=
  ⟨rfl, rfl, rfl, by simp [World.setRow], fun k hk => setRow_other w g k cs (by omega)⟩
set_option maxRecDepth 1000000 in
set_option maxHeartbeats 16000000 in
theorem solo_any (T : Option Addr) (nt ct : Nat) (ops : List Nat) (tk : Int) (w : World) (hT0 : ops.length = nt) (hT : SlU8 w w.heap.size T ops) (t0 : 0 ≤ tk) (t1 : tk < 256) :
    Calls Try.prog 6 #[.slice T nt ct, .int .u8 tk] w (BoolBelow true w) := by
  have HT := Lib.hid hT
  clear hT
  subst hT0
  go_enter Try.func6, Try.ntmps6
  go_wp2_with fail
  (with_reducible refine (shown_any _).mono ?_)
  rintro e w1 ⟨rfl, hb⟩
  have hbl := below_tr (Below.refl w.heap.size w) hb
  clear hb
  by_cases h40 : ops.length ≤ 40
  rotate_left
  · have g1 : decide ((40 : Int) < ops.length) = true := by simp; omega
    have g2 : decide ((ops.length : Int) > 40) = true := by simp; omega
    go_wp2_with fail
    go_ret
    exact ⟨rfl, hbl⟩
  have g1 : decide ((40 : Int) < ops.length) = false := by simp; omega
  have g2 : decide ((ops.length : Int) > 40) = false := by simp; omega
  go_wp2_with fail
  clear g1 g2
  (with_reducible refine (where_tk tk _ t0 t1).mono ?_)
  rintro e w2 ⟨rfl, hb⟩
  replace hbl := below_tr hbl hb
  clear hb
  obtain ⟨hnn, ly, lf⟩ := playL_size tk t0
  have htk : (playL tk).c.tasks = 1 + tk % 16 := rfl
  obtain ⟨l, hl⟩ : ∃ l, playL tk = l := ⟨_, rfl⟩
  rw [hl] at hnn ly lf htk ⊢
  obtain ⟨sz, hsz⟩ : ∃ s, l.size.toNat = s := ⟨_, rfl⟩
  rw [hsz] at hnn ly
  have hbig := ly.big
  have hah := aheadN_in (ringsN l.c.tasks)
  have hs28 : 28 ≤ sz ∧ sz ≤ 1000 := by omega
  obtain ⟨TT, hTT⟩ : ∃ t, l.c.tasks = t := ⟨_, rfl⟩
  have hT1 : 1 ≤ TT ∧ TT ≤ 16 := by rw [← hTT]; exact ly.tk
  have HLY := Lib.hid (And.intro ly (And.intro lf hTT))
  clear hl hsz hbig hah ly lf
  go_upto_region 5 with (refine wpList_store_new rfl 31 (.tmp 6) (.tmp 24) rfl rfl w2.heap.size _ _ (lyC l) rfl rfl rfl rfl (by kernel_rfl) rfl (by simp [Value.oneCell']) ?_)
  have kL := Bk.made w2 31 (lyC l)
  replace hbl := below_al hbl (.cells (lyC l) 31)
  generalize w2.alloc (.cells (lyC l) 31) = w3 at *
  generalize w2.heap.size = bL at *
  have c24 := kL.cell 24
  have lL := kL.lt
  simp at c24
  rw [hnn] at c24
  clear hnn
  go_wp2_with fail
  (with_reducible refine (new_any sz _ (by omega)).mono ?_)
  rintro e w4 ⟨g, rfl, hown, hb⟩
  replace kL := kL.keep hb
  have hB3 := hbl.size
  replace hbl := below_tr hbl hb
  clear hb c24 lL
  have hown0 := own_lower hown hB3
  clear hown hB3
  go_upto_region 6 with fail
  have kM := Bk.made w4 37 #[.slice (some ⟨g, 0, none⟩) sz sz]
  have hba := below_al (Below.refl w4.heap.size w4) (.cells #[.slice (some ⟨g, 0, none⟩) sz sz] 37)
  have hrl : SoW w (w4.alloc (.cells #[.slice (some ⟨g, 0, none⟩) sz sz] 37)) bL w4.heap.size l sz (List.replicate sz 0) [] none 0 0 g sz :=
    ⟨below_tr hbl hba, kL.keep hba, kM, own_keepb' hown0 hba, Que.nil _ _, (fun a h => by cases h), hbl.size⟩
  have HRL := Lib.hid hrl
  clear hrl kM kL hbl hba hown0
  generalize w4.alloc (.cells #[.slice (some ⟨g, 0, none⟩) sz sz] 37) = w5 at *
  generalize w4.heap.size = bM at *
  have c4 := HRL.out.kL.cell 4
  have lL := HRL.out.kL.lt
  simp at c4
  rw [HLY.out.2.2] at c4
  go_wp2_with fail
  go_loopw [8] (fun v8 wr => RoomR TT w5 v8 wr) (fun v8 _ => 20 - (intOf v8).toNat)
  case atStart => exact ⟨rfl, 4, rfl, .inl rfl⟩
  case round =>
    obtain ⟨rfl, x, rfl, hx⟩ := hrel
    by_cases hlt : (x : Int) < TT
    · have hx2 : IntKind.i64.wrap (2 * (x : Int)) = ((2 * x : Nat) : Int) := by rw [IntWalk.i64_in _ (by omega)]; omega
      go_wp2_with fail
      go_roundw
      case rel => exact ⟨rfl, 2 * x, by go_num, by omega⟩
      case measure => simp [intOf]; omega
    · have hroom := room_end hT1.1 hT1.2 hx (by omega)
      have g1 : decide ((x : Int) < TT) = false := by simp; omega
      have HROOM := Lib.hid (And.intro hroom hx)
      have hx16 : x ≤ 16 := by omega
      clear hroom hx
      go_wp2_with fail
      clear c4 lL g1
      have hrl := HRL.out
      have hso := solo_begin HLY.out.1
      have HR := Lib.hid (show SoR l sz bL bM ops w (.int .i64 4) (.slice none 0 0) (.int .i64 (0 : Nat)) wr from ⟨0, _, _, _, none, 0, 0, g, sz, Nat.zero_le _, rfl, rfl, rfl, hso, hrl⟩)
      clear hrl hso HRL
      go_loopw [9, 10, 11] (fun v9 v10 v11 wr => SoR l sz bL bM ops w v9 v10 v11 wr) (fun _ _ v11 _ => ops.length - (intOf v11).toNat)
      case atStart => exact HR.out
      case round =>
        clear HR
        obtain ⟨i, m, row, size, A, n, c, gm, cm, hi, rfl, rfl, rfl, hso, hw⟩ := hrel
        have hqn := hw.qu.1
        by_cases hlt : i < ops.length
        rotate_left
        · obtain rfl : i = ops.length := by omega
          have g1 : decide ((ops.length : Int) < ops.length) = false := by simp
          go_wp2_with fail
          go_ret
          exact ⟨rfl, hw.bl⟩
        obtain ⟨y, hy⟩ : ∃ y, ops[i]? = some y := ⟨_, List.getElem?_eq_getElem hlt⟩
        obtain ⟨bT, oT, hTA, hbT, hcT⟩ := HT.out (by omega)
        obtain ⟨cy, y256⟩ := hcT i y hy
        replace cy : wr.cell? ⟨bT, oT + i, none⟩ = some (.int .u8 (y : Nat)) := (hw.bl.cell (p := ⟨bT, _, none⟩) hbT).trans cy
        have hbTr : bT < wr.heap.size := Nat.lt_of_lt_of_le hbT hw.bl.size
        subst hTA
        have g1 : (i : Int) < ops.length := by omega
        have hlen := hso.len
        have hi40 : i ≤ 40 := by omega
        have hsz0 := size_cases hso.r0.1 (by have h1 := hso.r0.2; have h2 := rings3 HLY.out.1; omega)
        have hs16 : 0 ≤ size ∧ size ≤ 16 := by rw [hso.se]; omega
        have hn16 : n ≤ 16 := by have h1 := hso.sz; omega
        obtain ⟨av, hav⟩ : ∃ av : Int, (i : Int) + 5 = av := ⟨_, rfl⟩
        have h5 : IntKind.i64.wrap ((i : Int) + 5) = av := by rw [IntWalk.i64_in _ (by omega)]; exact hav
        have ha5 : -1 ≤ av ∧ av ≤ 1000 := by omega
        clear hav
        clear hcT hy hsz0 hlen hbT
        have h4 : y % 4 = 0 ∨ y % 4 = 1 ∨ y % 4 = 2 ∨ y % 4 = 3 := by omega
        have HSO := Lib.hid hso
        have HW := Lib.hid hw
        have lL := hw.kL.lt
        have hbM := hw.kM.lt
        clear hso hw
        rcases h4 with h4 | h4 | h4 | h4
        · have hmod : (y : Int) % 4 = 0 := by omega
          go_upto_region 15 with fail
          clear cy hmod hbTr g1 h5
          have hba := below_al (below_al (Below.refl wr.heap.size wr) (.cells #[.int .i64 8, .int .i64 8, .int .i64 9, .int .i64 10] 3)) (.cells (oprC ⟨8, 0, av, 0⟩) 39)
          have kO := Bk.new (wr.alloc (.cells #[.int .i64 8, .int .i64 8, .int .i64 9, .int .i64 10] 3)) (g := wr.heap.size + 1) (by simp) 39 (oprC ⟨8, 0, av, 0⟩)
          have hw := HW.out.keep hba
          clear HW hba lL hbM
          generalize (wr.alloc (.cells #[.int .i64 8, .int .i64 8, .int .i64 9, .int .i64 10] 3)).alloc (.cells (oprC ⟨8, 0, av, 0⟩) 39) = w6 at *
          generalize wr.heap.size + 1 = bO at *
          obtain ⟨K, is, err, pt, m2, hrun, hal, hK0, hcase⟩ := solo_push HLY.out.1 HSO.out (by omega) av ha5
          have HC := Lib.hid hcase
          clear hcase
          have c7 := hw.kM.cell 0
          have l7 := hw.kM.lt
          simp at c7
          go_wp2_with (first
            | (refine wpList_load_row rfl 31 (.tmp 6) rfl bL rfl 31 (lyC l) (0, 0) _ hw.kL Try.underlying31 rfl (by kernel_rfl) ?_)
            | (refine wpList_load_row rfl 39 (.tmp 12) rfl bO rfl 39 (oprC ⟨8, 0, av, 0⟩) (0, 0) _ kO Try.underlying39 rfl (by kernel_rfl) ?_))
          (with_reducible refine (alone_s _ HLY.out.2.1 (.inl rfl) rfl hrun hK0 HSO.out.ml hs28.2 hs28.1 hw.om hal).mono ?_)
          rintro e w7 ⟨g2, c2, rfl, hg2, ho2, hb⟩
          have hne2 : ∀ a, A = some a → a.block ≠ g2 := by
            intro a e
            have h1 := hw.qu.2.2
            rcases h1 with ⟨h1, _⟩ | ⟨g', o', cur, h1, _, h3, _⟩
            · rw [h1] at e; cases e
            · rw [h1] at e
              injection e with e
              subst e
              have := h3.lt
              dsimp only
              omega
          have ho2 := own_lower ho2 hw.bl.size
          clear c7 l7 hg2
          replace hw := hw.keep hb
          replace kO := kO.keep hb
          clear hb hrun hal
          have n1 := (Bk.made w7 50 outZ).alloc (.cells #[.slice none 0 0] 37)
          have n2 := Bk.new (w7.alloc (.cells outZ 50)) (g := w7.heap.size + 1) (by simp) 37 #[.slice none 0 0]
          have n3 : Bk (((w7.alloc (.cells outZ 50)).alloc (.cells #[.slice none 0 0] 37)).setRow w7.heap.size (outC 0 is err pt)) (w7.heap.size + 1) 37 #[.slice none 0 0] := (setRow_other _ _ _ _ (by omega)).trans n2
          have f1 : Bk ((((w7.alloc (.cells outZ 50)).alloc (.cells #[.slice none 0 0] 37)).setRow w7.heap.size (outC 0 is err pt)).setRow (w7.heap.size + 1) #[.slice (some ⟨g2, 0, none⟩) sz c2]) w7.heap.size 50 (outC 0 is err pt) := (setRow_other _ _ _ _ (by omega)).trans (setRow_heap _ _ outZ (outC 0 is err pt) 50 (0, 0) n1)
          have f2 : Bk ((((w7.alloc (.cells outZ 50)).alloc (.cells #[.slice none 0 0] 37)).setRow w7.heap.size (outC 0 is err pt)).setRow (w7.heap.size + 1) #[.slice (some ⟨g2, 0, none⟩) sz c2]) (w7.heap.size + 1) 37 #[.slice (some ⟨g2, 0, none⟩) sz c2] := setRow_heap _ _ #[.slice none 0 0] #[.slice (some ⟨g2, 0, none⟩) sz c2] 37 (0, 0) n3
          have hbb : Below w7.heap.size w7 ((((w7.alloc (.cells outZ 50)).alloc (.cells #[.slice none 0 0] 37)).setRow w7.heap.size (outC 0 is err pt)).setRow (w7.heap.size + 1) #[.slice (some ⟨g2, 0, none⟩) sz c2]) := (((below_al (below_al (Below.refl _ _) _) _).trans (below_setRow1 (Nat.le_refl _) _)).trans (below_setRow1 (Nat.le_succ _) _))
          have H3 := Lib.hid (And.intro f1 (And.intro f2 (And.intro (hw.keep hbb) (And.intro (kO.keep hbb) (own_keepb' (show World.ownsRow w7 w.heap.size 3 1 (.slice (some ⟨g2, 0, none⟩) sz c2) m2.length (ints m2) from ho2) hbb : OwnInts _ w.heap.size (.slice (some ⟨g2, 0, none⟩) sz c2) m2)))))
          clear f1 f2 hbb n2 hw kO ho2
          go_upto_region 16 with (first
            | (refine wpList_store_rowTo rfl 50 (.tmp 13) (.tmp 57) rfl rfl w7.heap.size (outC 0 is err pt) rfl rfl 50 outZ n1 (by kernel_rfl) rfl (by simp [Value.oneCell']) ?_)
            | (refine wpList_store_rowTo rfl 37 (.tmp 14) (.tmp 58) rfl rfl (w7.heap.size + 1) #[.slice (some ⟨g2, 0, none⟩) sz c2] rfl rfl 37 #[.slice none 0 0] n3 (by kernel_rfl) rfl (by simp [Value.oneCell']) ?_))
          clear n1 n3
          obtain ⟨f1, f2, hw, kO, ho2⟩ := H3.out
          clear H3
          replace ho2 : OwnInts _ w.heap.size (.slice (some ⟨g2, 0, none⟩) sz c2) m2 := ho2
          show Code.wp Try.prog _ _ _ ((((w7.alloc (.cells outZ 50)).alloc (.cells #[.slice none 0 0] 37)).setRow w7.heap.size (outC 0 is err pt)).setRow (w7.heap.size + 1) #[.slice (some ⟨g2, 0, none⟩) sz c2])
          generalize (((w7.alloc (.cells outZ 50)).alloc (.cells #[.slice none 0 0] 37)).setRow w7.heap.size (outC 0 is err pt)).setRow (w7.heap.size + 1) #[.slice (some ⟨g2, 0, none⟩) sz c2] = w8 at *
          obtain ⟨gA, hgA⟩ : ∃ g, w7.heap.size = g := ⟨_, rfl⟩
          obtain ⟨gB, hgB⟩ : ∃ g, w7.heap.size + 1 = g := ⟨_, rfl⟩
          rw [hgA] at f1
          rw [hgB] at f2
          rw [hgB, hgA]
          clear hgA hgB
          have o0 := f1.cell 0
          have o1 := f1.cell 1
          have o2 := f1.cell 2
          have lO := f1.lt
          have p0 := kO.cell 0
          have p2 := kO.cell 2
          have lP := kO.lt
          simp at o0 o1 o2 p0 p2
          have hx1 := HROOM.out.1
          rw [← HLY.out.2.2] at hx1
          rcases HC.out with ⟨h1, rfl, rfl, rfl, rfl⟩ | ⟨h1, rfl, h2⟩
          · have e1 : ((n : Int) == x) = true := by simp; omega
            have e2 : decide ((n : Int) = x) = true := by simp; omega
            have c14 := f2.cell 0
            have c7 := hw.kM.cell 0
            have l14 := f2.lt
            have l7 := hw.kM.lt
            simp at c14 c7
            clear hx1 h1 HC p2 o0
            go_wp2_with fail
            (with_reducible refine (same_s ho2 hw.om HSO.out.ml hs28.2).mono ?_)
            rintro e w9 ⟨rfl, hb⟩
            replace hw := hw.keep hb
            have HR := Lib.hid (show SoR l sz bL bM ops w (.int .i64 size) (.slice A n c) (.int .i64 ((i + 1 : Nat) : Int)) w9 from ⟨i + 1, _, _, _, _, _, _, _, _, by omega, rfl, rfl, rfl, HSO.out.more (by omega), hw⟩)
            clear hb hw ho2 e1 e2 c14 c7 l14 l7 o1 o2 p0 kO f1 f2
            go_wp2_with fail
            go_roundw
            case rel => exact HR.out
            case measure => simp [intOf]; omega
          have e1 : ((n : Int) == x) = false := by simp; omega
          have e2 : decide ((n : Int) = x) = false := by simp; omega
          have hbr := below_al (Below.refl w8.heap.size w8) (.cells #[.int .i64 av] 3)
          have hQ := hw.qu.keep hbr
          have hBq : w.heap.size ≤ (w8.alloc (.cells #[.int .i64 av] 3)).heap.size := Nat.le_trans hw.bl.size hbr.size
          have hcl : (w8.alloc (.cells #[.int .i64 av] 3)).cell? ⟨w8.heap.size, 0, none⟩ = some (.int .i64 av) := by
            rw [(Bk.made w8 3 #[.int .i64 av]).cell 0]; rfl
          have HBM := Lib.hid hw.bM
          have HA := Lib.hid (And.intro hw (And.intro ho2 (And.intro f2 (And.intro hbr (And.intro hcl hBq)))))
          have HQ := Lib.hid hQ
          clear hw ho2 f1 f2 hbr kO hcl hQ hBq o0 o2 HC hx1 h1
          rcases h2 with ⟨h3, h4, h5⟩ | ⟨h3, h4, h5⟩
          · have e3 : ((n : Int) == size) = true := by simp; omega
            have e4 : decide ((n : Int) = size) = true := by simp; omega
            have e5 : IntKind.i64.wrap (2 * size) = 2 * size := IntWalk.i64_in _ (by omega)
            have e6 : IntKind.i64.wrap (6 + 2 * size) = 6 + 2 * size := IntWalk.i64_in _ (by omega)
            have e7 : ((K : Int) != 6 + 2 * size) = false := by simp; omega
            have e8 : decide ((K : Int) ≠ 6 + 2 * size) = false := by simp; omega
            have HSN := Lib.hid h5
            have HK := Lib.hid hK0
            clear h3 h4 h5 hK0
            go_upto_region 43 with (first
              | (at_builtin; go_must (refine wpList_que rfl (.tmp 129) (.tmp 132) rfl rfl HQ.out HA.out.2.2.2.2.2 (by omega) w8.heap.size av rfl HA.out.2.2.2.2.1 ?_; intro A9 c9 w9 hqu hb9 hk9)))
            clear e1 e2 e3 e4 e5 e6 e7 e8 p0 p2 lP lO o1
            obtain ⟨hw, ho2, f2, hbr, hcl, hBq⟩ := HA.out
            have hbl := below_tr hw.bl hbr |>.trans hb9
            have kL := (hk9 bL (hw.kL.keep hbr).lt (HQ.out.ne (hw.kL.keep hbr) (by decide))).1.trans (hw.kL.keep hbr)
            have kM := (hk9 bM (hw.kM.keep hbr).lt (HQ.out.ne (hw.kM.keep hbr) (by decide))).1.trans (hw.kM.keep hbr)
            have hg2lt : g2 < (w8.alloc (.cells #[.int .i64 av] 3)).heap.size := own_lt (own_keepb' (show World.ownsRow w8 w.heap.size 3 1 (.slice (some ⟨g2, 0, none⟩) sz c2) m2.length (ints m2) from ho2) hbr)
            have hk2 := hk9 g2 hg2lt hne2
            replace ho2 := own_at (own_keepb' (show World.ownsRow w8 w.heap.size 3 1 (.slice (some ⟨g2, 0, none⟩) sz c2) m2.length (ints m2) from ho2) hbr) hk2.1
            replace hne2 := hk2.2
            have f2' := (hk9 gB (f2.keep hbr).lt (HQ.out.ne (f2.keep hbr) (by decide))).1.trans (f2.keep hbr)
            replace f2 : Bk w9 gB 37 #[.slice (some ⟨g2, 0, none⟩) sz c2] := f2'
            replace kL : Bk w9 bL 31 (lyC l) := kL
            replace kM : Bk w9 bM 37 #[.slice (some ⟨gm, 0, none⟩) sz cm] := kM
            clear hw hbr hcl hBq hb9 hk9 hk2 hg2lt HA HQ f2'
            have c14 := f2.cell 0
            have l14 := f2.lt
            have f7 := kM.free 0
            have l7 := kM.lt
            have c7 := kM.cell 0
            simp at c14 c7
            have HW2 := Lib.hid (SoW.next hbl kL kM ho2 hqu hne2 HBM.out)
            clear hbl kL kM ho2 hqu hne2 f2
            go_upto_region 44 with fail
            clear c14 l14 f7 l7 c7
            have hw2 := HW2.out
            clear HW2
            generalize w9.setCell ⟨bM, 0, none⟩ (.slice (some ⟨g2, 0, none⟩) sz c2) = w10 at *
            have c7 := hw2.kM.cell 0
            have l7 := hw2.kM.lt
            simp at c7
            go_wp2_with (refine wpList_load_row rfl 31 (.tmp 6) rfl bL rfl 31 (lyC l) (0, 0) _ hw2.kL Try.underlying31 rfl (by kernel_rfl) ?_)
            (with_reducible refine (row_s HLY.out.1 HLY.out.2.1 HSN.out (by omega) hw2.om hs28.2).mono ?_)
            rintro e w11 ⟨A11, c11, rfl, hsl, hb⟩
            replace hw2 := hw2.keep hb
            have hqn2 := hw2.qu.1
            rw [hqn2]
            clear hb c7 l7
            go_wp2_with fail
            (with_reducible refine (ints_s hsl hw2.qu.sl hqn2 (by omega)).mono ?_)
            rintro e w12 ⟨rfl, hb⟩
            replace hw2 := hw2.keep hb
            have HR := Lib.hid (show SoR l sz bL bM ops w (.int .i64 (2 * size)) (.slice A9 (n + 1) (c9)) (.int .i64 ((i + 1 : Nat) : Int)) w12 from ⟨i + 1, _, _, _, _, _, _, _, _, by omega, rfl, rfl, rfl, HSN.out, hw2⟩)
            clear hb hsl hw2 hqn2
            go_wp2_with fail
            go_roundw
            case rel => exact HR.out
            case measure => simp [intOf]; omega
          · have e3 : ((n : Int) == size) = false := by simp; omega
            have e4 : decide ((n : Int) = size) = false := by simp; omega
            subst h4
            have HSN := Lib.hid h5
            have HK := Lib.hid hK0
            clear h3 h5 hK0
            go_upto_region 43 with (first
              | (at_builtin; go_must (refine wpList_que rfl (.tmp 129) (.tmp 132) rfl rfl HQ.out HA.out.2.2.2.2.2 (by omega) w8.heap.size av rfl HA.out.2.2.2.2.1 ?_; intro A9 c9 w9 hqu hb9 hk9)))
            clear e1 e2 e3 e4 p0 p2 lP lO o1
            obtain ⟨hw, ho2, f2, hbr, hcl, hBq⟩ := HA.out
            have hbl := below_tr hw.bl hbr |>.trans hb9
            have kL := (hk9 bL (hw.kL.keep hbr).lt (HQ.out.ne (hw.kL.keep hbr) (by decide))).1.trans (hw.kL.keep hbr)
            have kM := (hk9 bM (hw.kM.keep hbr).lt (HQ.out.ne (hw.kM.keep hbr) (by decide))).1.trans (hw.kM.keep hbr)
            have hg2lt : g2 < (w8.alloc (.cells #[.int .i64 av] 3)).heap.size := own_lt (own_keepb' (show World.ownsRow w8 w.heap.size 3 1 (.slice (some ⟨g2, 0, none⟩) sz c2) m2.length (ints m2) from ho2) hbr)
            have hk2 := hk9 g2 hg2lt hne2
            replace ho2 := own_at (own_keepb' (show World.ownsRow w8 w.heap.size 3 1 (.slice (some ⟨g2, 0, none⟩) sz c2) m2.length (ints m2) from ho2) hbr) hk2.1
            replace hne2 := hk2.2
            have f2' := (hk9 gB (f2.keep hbr).lt (HQ.out.ne (f2.keep hbr) (by decide))).1.trans (f2.keep hbr)
            replace f2 : Bk w9 gB 37 #[.slice (some ⟨g2, 0, none⟩) sz c2] := f2'
            replace kL : Bk w9 bL 31 (lyC l) := kL
            replace kM : Bk w9 bM 37 #[.slice (some ⟨gm, 0, none⟩) sz cm] := kM
            clear hw hbr hcl hBq hb9 hk9 hk2 hg2lt HA HQ f2'
            have c14 := f2.cell 0
            have l14 := f2.lt
            have f7 := kM.free 0
            have l7 := kM.lt
            have c7 := kM.cell 0
            simp at c14 c7
            have HW2 := Lib.hid (SoW.next hbl kL kM ho2 hqu hne2 HBM.out)
            clear hbl kL kM ho2 hqu hne2 f2
            go_upto_region 44 with fail
            clear c14 l14 f7 l7 c7
            have hw2 := HW2.out
            clear HW2
            generalize w9.setCell ⟨bM, 0, none⟩ (.slice (some ⟨g2, 0, none⟩) sz c2) = w10 at *
            have c7 := hw2.kM.cell 0
            have l7 := hw2.kM.lt
            simp at c7
            go_wp2_with (refine wpList_load_row rfl 31 (.tmp 6) rfl bL rfl 31 (lyC l) (0, 0) _ hw2.kL Try.underlying31 rfl (by kernel_rfl) ?_)
            (with_reducible refine (row_s HLY.out.1 HLY.out.2.1 HSN.out (by omega) hw2.om hs28.2).mono ?_)
            rintro e w11 ⟨A11, c11, rfl, hsl, hb⟩
            replace hw2 := hw2.keep hb
            have hqn2 := hw2.qu.1
            rw [hqn2]
            clear hb c7 l7
            go_wp2_with fail
            (with_reducible refine (ints_s hsl hw2.qu.sl hqn2 (by omega)).mono ?_)
            rintro e w12 ⟨rfl, hb⟩
            replace hw2 := hw2.keep hb
            have HR := Lib.hid (show SoR l sz bL bM ops w (.int .i64 (size)) (.slice A9 (n + 1) (c9)) (.int .i64 ((i + 1 : Nat) : Int)) w12 from ⟨i + 1, _, _, _, _, _, _, _, _, by omega, rfl, rfl, rfl, HSN.out, hw2⟩)
            clear hb hsl hw2 hqn2
            go_wp2_with fail
            go_roundw
            case rel => exact HR.out
            case measure => simp [intOf]; omega
        · have hmod : (y : Int) % 4 = 1 := by omega
          go_upto_region 15 with fail
          clear cy hmod hbTr g1 h5
          have hba := below_al (below_al (Below.refl wr.heap.size wr) (.cells #[.int .i64 8, .int .i64 8, .int .i64 9, .int .i64 10] 3)) (.cells (oprC ⟨8, 0, av, 0⟩) 39)
          have kO := Bk.new (wr.alloc (.cells #[.int .i64 8, .int .i64 8, .int .i64 9, .int .i64 10] 3)) (g := wr.heap.size + 1) (by simp) 39 (oprC ⟨8, 0, av, 0⟩)
          have hw := HW.out.keep hba
          clear HW hba lL hbM
          generalize (wr.alloc (.cells #[.int .i64 8, .int .i64 8, .int .i64 9, .int .i64 10] 3)).alloc (.cells (oprC ⟨8, 0, av, 0⟩) 39) = w6 at *
          generalize wr.heap.size + 1 = bO at *
          obtain ⟨K, is, err, pt, m2, hrun, hal, hK0, hcase⟩ := solo_push HLY.out.1 HSO.out (by omega) av ha5
          have HC := Lib.hid hcase
          clear hcase
          have c7 := hw.kM.cell 0
          have l7 := hw.kM.lt
          simp at c7
          go_wp2_with (first
            | (refine wpList_load_row rfl 31 (.tmp 6) rfl bL rfl 31 (lyC l) (0, 0) _ hw.kL Try.underlying31 rfl (by kernel_rfl) ?_)
            | (refine wpList_load_row rfl 39 (.tmp 12) rfl bO rfl 39 (oprC ⟨8, 0, av, 0⟩) (0, 0) _ kO Try.underlying39 rfl (by kernel_rfl) ?_))
          (with_reducible refine (alone_s _ HLY.out.2.1 (.inl rfl) rfl hrun hK0 HSO.out.ml hs28.2 hs28.1 hw.om hal).mono ?_)
          rintro e w7 ⟨g2, c2, rfl, hg2, ho2, hb⟩
          have hne2 : ∀ a, A = some a → a.block ≠ g2 := by
            intro a e
            have h1 := hw.qu.2.2
            rcases h1 with ⟨h1, _⟩ | ⟨g', o', cur, h1, _, h3, _⟩
            · rw [h1] at e; cases e
            · rw [h1] at e
              injection e with e
              subst e
              have := h3.lt
              dsimp only
              omega
          have ho2 := own_lower ho2 hw.bl.size
          clear c7 l7 hg2
          replace hw := hw.keep hb
          replace kO := kO.keep hb
          clear hb hrun hal
          have n1 := (Bk.made w7 50 outZ).alloc (.cells #[.slice none 0 0] 37)
          have n2 := Bk.new (w7.alloc (.cells outZ 50)) (g := w7.heap.size + 1) (by simp) 37 #[.slice none 0 0]
          have n3 : Bk (((w7.alloc (.cells outZ 50)).alloc (.cells #[.slice none 0 0] 37)).setRow w7.heap.size (outC 0 is err pt)) (w7.heap.size + 1) 37 #[.slice none 0 0] := (setRow_other _ _ _ _ (by omega)).trans n2
          have f1 : Bk ((((w7.alloc (.cells outZ 50)).alloc (.cells #[.slice none 0 0] 37)).setRow w7.heap.size (outC 0 is err pt)).setRow (w7.heap.size + 1) #[.slice (some ⟨g2, 0, none⟩) sz c2]) w7.heap.size 50 (outC 0 is err pt) := (setRow_other _ _ _ _ (by omega)).trans (setRow_heap _ _ outZ (outC 0 is err pt) 50 (0, 0) n1)
          have f2 : Bk ((((w7.alloc (.cells outZ 50)).alloc (.cells #[.slice none 0 0] 37)).setRow w7.heap.size (outC 0 is err pt)).setRow (w7.heap.size + 1) #[.slice (some ⟨g2, 0, none⟩) sz c2]) (w7.heap.size + 1) 37 #[.slice (some ⟨g2, 0, none⟩) sz c2] := setRow_heap _ _ #[.slice none 0 0] #[.slice (some ⟨g2, 0, none⟩) sz c2] 37 (0, 0) n3
          have hbb : Below w7.heap.size w7 ((((w7.alloc (.cells outZ 50)).alloc (.cells #[.slice none 0 0] 37)).setRow w7.heap.size (outC 0 is err pt)).setRow (w7.heap.size + 1) #[.slice (some ⟨g2, 0, none⟩) sz c2]) := (((below_al (below_al (Below.refl _ _) _) _).trans (below_setRow1 (Nat.le_refl _) _)).trans (below_setRow1 (Nat.le_succ _) _))
          have H3 := Lib.hid (And.intro f1 (And.intro f2 (And.intro (hw.keep hbb) (And.intro (kO.keep hbb) (own_keepb' (show World.ownsRow w7 w.heap.size 3 1 (.slice (some ⟨g2, 0, none⟩) sz c2) m2.length (ints m2) from ho2) hbb : OwnInts _ w.heap.size (.slice (some ⟨g2, 0, none⟩) sz c2) m2)))))
          clear f1 f2 hbb n2 hw kO ho2
          go_upto_region 16 with (first
            | (refine wpList_store_rowTo rfl 50 (.tmp 13) (.tmp 57) rfl rfl w7.heap.size (outC 0 is err pt) rfl rfl 50 outZ n1 (by kernel_rfl) rfl (by simp [Value.oneCell']) ?_)
            | (refine wpList_store_rowTo rfl 37 (.tmp 14) (.tmp 58) rfl rfl (w7.heap.size + 1) #[.slice (some ⟨g2, 0, none⟩) sz c2] rfl rfl 37 #[.slice none 0 0] n3 (by kernel_rfl) rfl (by simp [Value.oneCell']) ?_))
          clear n1 n3
          obtain ⟨f1, f2, hw, kO, ho2⟩ := H3.out
          clear H3
          replace ho2 : OwnInts _ w.heap.size (.slice (some ⟨g2, 0, none⟩) sz c2) m2 := ho2
          show Code.wp Try.prog _ _ _ ((((w7.alloc (.cells outZ 50)).alloc (.cells #[.slice none 0 0] 37)).setRow w7.heap.size (outC 0 is err pt)).setRow (w7.heap.size + 1) #[.slice (some ⟨g2, 0, none⟩) sz c2])
          generalize (((w7.alloc (.cells outZ 50)).alloc (.cells #[.slice none 0 0] 37)).setRow w7.heap.size (outC 0 is err pt)).setRow (w7.heap.size + 1) #[.slice (some ⟨g2, 0, none⟩) sz c2] = w8 at *
          obtain ⟨gA, hgA⟩ : ∃ g, w7.heap.size = g := ⟨_, rfl⟩
          obtain ⟨gB, hgB⟩ : ∃ g, w7.heap.size + 1 = g := ⟨_, rfl⟩
          rw [hgA] at f1
          rw [hgB] at f2
          rw [hgB, hgA]
          clear hgA hgB
          have o0 := f1.cell 0
          have o1 := f1.cell 1
          have o2 := f1.cell 2
          have lO := f1.lt
          have p0 := kO.cell 0
          have p2 := kO.cell 2
          have lP := kO.lt
          simp at o0 o1 o2 p0 p2
          have hx1 := HROOM.out.1
          rw [← HLY.out.2.2] at hx1
          rcases HC.out with ⟨h1, rfl, rfl, rfl, rfl⟩ | ⟨h1, rfl, h2⟩
          · have e1 : ((n : Int) == x) = true := by simp; omega
            have e2 : decide ((n : Int) = x) = true := by simp; omega
            have c14 := f2.cell 0
            have c7 := hw.kM.cell 0
            have l14 := f2.lt
            have l7 := hw.kM.lt
            simp at c14 c7
            clear hx1 h1 HC p2 o0
            go_wp2_with fail
            (with_reducible refine (same_s ho2 hw.om HSO.out.ml hs28.2).mono ?_)
            rintro e w9 ⟨rfl, hb⟩
            replace hw := hw.keep hb
            have HR := Lib.hid (show SoR l sz bL bM ops w (.int .i64 size) (.slice A n c) (.int .i64 ((i + 1 : Nat) : Int)) w9 from ⟨i + 1, _, _, _, _, _, _, _, _, by omega, rfl, rfl, rfl, HSO.out.more (by omega), hw⟩)
            clear hb hw ho2 e1 e2 c14 c7 l14 l7 o1 o2 p0 kO f1 f2
            go_wp2_with fail
            go_roundw
            case rel => exact HR.out
            case measure => simp [intOf]; omega
          have e1 : ((n : Int) == x) = false := by simp; omega
          have e2 : decide ((n : Int) = x) = false := by simp; omega
          have hbr := below_al (Below.refl w8.heap.size w8) (.cells #[.int .i64 av] 3)
          have hQ := hw.qu.keep hbr
          have hBq : w.heap.size ≤ (w8.alloc (.cells #[.int .i64 av] 3)).heap.size := Nat.le_trans hw.bl.size hbr.size
          have hcl : (w8.alloc (.cells #[.int .i64 av] 3)).cell? ⟨w8.heap.size, 0, none⟩ = some (.int .i64 av) := by
            rw [(Bk.made w8 3 #[.int .i64 av]).cell 0]; rfl
          have HBM := Lib.hid hw.bM
          have HA := Lib.hid (And.intro hw (And.intro ho2 (And.intro f2 (And.intro hbr (And.intro hcl hBq)))))
          have HQ := Lib.hid hQ
          clear hw ho2 f1 f2 hbr kO hcl hQ hBq o0 o2 HC hx1 h1
          rcases h2 with ⟨h3, h4, h5⟩ | ⟨h3, h4, h5⟩
          · have e3 : ((n : Int) == size) = true := by simp; omega
            have e4 : decide ((n : Int) = size) = true := by simp; omega
            have e5 : IntKind.i64.wrap (2 * size) = 2 * size := IntWalk.i64_in _ (by omega)
            have e6 : IntKind.i64.wrap (6 + 2 * size) = 6 + 2 * size := IntWalk.i64_in _ (by omega)
            have e7 : ((K : Int) != 6 + 2 * size) = false := by simp; omega
            have e8 : decide ((K : Int) ≠ 6 + 2 * size) = false := by simp; omega
            have HSN := Lib.hid h5
            have HK := Lib.hid hK0
            clear h3 h4 h5 hK0
            go_upto_region 43 with (first
              | (at_builtin; go_must (refine wpList_que rfl (.tmp 129) (.tmp 132) rfl rfl HQ.out HA.out.2.2.2.2.2 (by omega) w8.heap.size av rfl HA.out.2.2.2.2.1 ?_; intro A9 c9 w9 hqu hb9 hk9)))
            clear e1 e2 e3 e4 e5 e6 e7 e8 p0 p2 lP lO o1
            obtain ⟨hw, ho2, f2, hbr, hcl, hBq⟩ := HA.out
            have hbl := below_tr hw.bl hbr |>.trans hb9
            have kL := (hk9 bL (hw.kL.keep hbr).lt (HQ.out.ne (hw.kL.keep hbr) (by decide))).1.trans (hw.kL.keep hbr)
            have kM := (hk9 bM (hw.kM.keep hbr).lt (HQ.out.ne (hw.kM.keep hbr) (by decide))).1.trans (hw.kM.keep hbr)
            have hg2lt : g2 < (w8.alloc (.cells #[.int .i64 av] 3)).heap.size := own_lt (own_keepb' (show World.ownsRow w8 w.heap.size 3 1 (.slice (some ⟨g2, 0, none⟩) sz c2) m2.length (ints m2) from ho2) hbr)
            have hk2 := hk9 g2 hg2lt hne2
            replace ho2 := own_at (own_keepb' (show World.ownsRow w8 w.heap.size 3 1 (.slice (some ⟨g2, 0, none⟩) sz c2) m2.length (ints m2) from ho2) hbr) hk2.1
            replace hne2 := hk2.2
            have f2' := (hk9 gB (f2.keep hbr).lt (HQ.out.ne (f2.keep hbr) (by decide))).1.trans (f2.keep hbr)
            replace f2 : Bk w9 gB 37 #[.slice (some ⟨g2, 0, none⟩) sz c2] := f2'
            replace kL : Bk w9 bL 31 (lyC l) := kL
            replace kM : Bk w9 bM 37 #[.slice (some ⟨gm, 0, none⟩) sz cm] := kM
            clear hw hbr hcl hBq hb9 hk9 hk2 hg2lt HA HQ f2'
            have c14 := f2.cell 0
            have l14 := f2.lt
            have f7 := kM.free 0
            have l7 := kM.lt
            have c7 := kM.cell 0
            simp at c14 c7
            have HW2 := Lib.hid (SoW.next hbl kL kM ho2 hqu hne2 HBM.out)
            clear hbl kL kM ho2 hqu hne2 f2
            go_upto_region 44 with fail
            clear c14 l14 f7 l7 c7
            have hw2 := HW2.out
            clear HW2
            generalize w9.setCell ⟨bM, 0, none⟩ (.slice (some ⟨g2, 0, none⟩) sz c2) = w10 at *
            have c7 := hw2.kM.cell 0
            have l7 := hw2.kM.lt
            simp at c7
            go_wp2_with (refine wpList_load_row rfl 31 (.tmp 6) rfl bL rfl 31 (lyC l) (0, 0) _ hw2.kL Try.underlying31 rfl (by kernel_rfl) ?_)
            (with_reducible refine (row_s HLY.out.1 HLY.out.2.1 HSN.out (by omega) hw2.om hs28.2).mono ?_)
            rintro e w11 ⟨A11, c11, rfl, hsl, hb⟩
            replace hw2 := hw2.keep hb
            have hqn2 := hw2.qu.1
            rw [hqn2]
            clear hb c7 l7
            go_wp2_with fail
            (with_reducible refine (ints_s hsl hw2.qu.sl hqn2 (by omega)).mono ?_)
            rintro e w12 ⟨rfl, hb⟩
            replace hw2 := hw2.keep hb
            have HR := Lib.hid (show SoR l sz bL bM ops w (.int .i64 (2 * size)) (.slice A9 (n + 1) (c9)) (.int .i64 ((i + 1 : Nat) : Int)) w12 from ⟨i + 1, _, _, _, _, _, _, _, _, by omega, rfl, rfl, rfl, HSN.out, hw2⟩)
            clear hb hsl hw2 hqn2
            go_wp2_with fail
            go_roundw
            case rel => exact HR.out
            case measure => simp [intOf]; omega
          · have e3 : ((n : Int) == size) = false := by simp; omega
            have e4 : decide ((n : Int) = size) = false := by simp; omega
            subst h4
            have HSN := Lib.hid h5
            have HK := Lib.hid hK0
            clear h3 h5 hK0
            go_upto_region 43 with (first
              | (at_builtin; go_must (refine wpList_que rfl (.tmp 129) (.tmp 132) rfl rfl HQ.out HA.out.2.2.2.2.2 (by omega) w8.heap.size av rfl HA.out.2.2.2.2.1 ?_; intro A9 c9 w9 hqu hb9 hk9)))
            clear e1 e2 e3 e4 p0 p2 lP lO o1
            obtain ⟨hw, ho2, f2, hbr, hcl, hBq⟩ := HA.out
            have hbl := below_tr hw.bl hbr |>.trans hb9
            have kL := (hk9 bL (hw.kL.keep hbr).lt (HQ.out.ne (hw.kL.keep hbr) (by decide))).1.trans (hw.kL.keep hbr)
            have kM := (hk9 bM (hw.kM.keep hbr).lt (HQ.out.ne (hw.kM.keep hbr) (by decide))).1.trans (hw.kM.keep hbr)
            have hg2lt : g2 < (w8.alloc (.cells #[.int .i64 av] 3)).heap.size := own_lt (own_keepb' (show World.ownsRow w8 w.heap.size 3 1 (.slice (some ⟨g2, 0, none⟩) sz c2) m2.length (ints m2) from ho2) hbr)
            have hk2 := hk9 g2 hg2lt hne2
            replace ho2 := own_at (own_keepb' (show World.ownsRow w8 w.heap.size 3 1 (.slice (some ⟨g2, 0, none⟩) sz c2) m2.length (ints m2) from ho2) hbr) hk2.1
            replace hne2 := hk2.2
            have f2' := (hk9 gB (f2.keep hbr).lt (HQ.out.ne (f2.keep hbr) (by decide))).1.trans (f2.keep hbr)
            replace f2 : Bk w9 gB 37 #[.slice (some ⟨g2, 0, none⟩) sz c2] := f2'
            replace kL : Bk w9 bL 31 (lyC l) := kL
            replace kM : Bk w9 bM 37 #[.slice (some ⟨gm, 0, none⟩) sz cm] := kM
            clear hw hbr hcl hBq hb9 hk9 hk2 hg2lt HA HQ f2'
            have c14 := f2.cell 0
            have l14 := f2.lt
            have f7 := kM.free 0
            have l7 := kM.lt
            have c7 := kM.cell 0
            simp at c14 c7
            have HW2 := Lib.hid (SoW.next hbl kL kM ho2 hqu hne2 HBM.out)
            clear hbl kL kM ho2 hqu hne2 f2
            go_upto_region 44 with fail
            clear c14 l14 f7 l7 c7
            have hw2 := HW2.out
            clear HW2
            generalize w9.setCell ⟨bM, 0, none⟩ (.slice (some ⟨g2, 0, none⟩) sz c2) = w10 at *
            have c7 := hw2.kM.cell 0
            have l7 := hw2.kM.lt
            simp at c7
            go_wp2_with (refine wpList_load_row rfl 31 (.tmp 6) rfl bL rfl 31 (lyC l) (0, 0) _ hw2.kL Try.underlying31 rfl (by kernel_rfl) ?_)
            (with_reducible refine (row_s HLY.out.1 HLY.out.2.1 HSN.out (by omega) hw2.om hs28.2).mono ?_)
            rintro e w11 ⟨A11, c11, rfl, hsl, hb⟩
            replace hw2 := hw2.keep hb
            have hqn2 := hw2.qu.1
            rw [hqn2]
            clear hb c7 l7
            go_wp2_with fail
            (with_reducible refine (ints_s hsl hw2.qu.sl hqn2 (by omega)).mono ?_)
            rintro e w12 ⟨rfl, hb⟩
            replace hw2 := hw2.keep hb
            have HR := Lib.hid (show SoR l sz bL bM ops w (.int .i64 (size)) (.slice A9 (n + 1) (c9)) (.int .i64 ((i + 1 : Nat) : Int)) w12 from ⟨i + 1, _, _, _, _, _, _, _, _, by omega, rfl, rfl, rfl, HSN.out, hw2⟩)
            clear hb hsl hw2 hqn2
            go_wp2_with fail
            go_roundw
            case rel => exact HR.out
            case measure => simp [intOf]; omega
        · have hmod : (y : Int) % 4 = 2 := by omega
          go_upto_region 15 with fail
          clear cy hmod hbTr g1 h5
          have hba := below_al (below_al (Below.refl wr.heap.size wr) (.cells #[.int .i64 8, .int .i64 8, .int .i64 9, .int .i64 10] 3)) (.cells (oprC ⟨9, 0, av, 0⟩) 39)
          have kO := Bk.new (wr.alloc (.cells #[.int .i64 8, .int .i64 8, .int .i64 9, .int .i64 10] 3)) (g := wr.heap.size + 1) (by simp) 39 (oprC ⟨9, 0, av, 0⟩)
          have hw := HW.out.keep hba
          clear HW hba lL hbM
          generalize (wr.alloc (.cells #[.int .i64 8, .int .i64 8, .int .i64 9, .int .i64 10] 3)).alloc (.cells (oprC ⟨9, 0, av, 0⟩) 39) = w6 at *
          generalize wr.heap.size + 1 = bO at *
          obtain ⟨K, val, is, pt, m2, hrun, hal, hK0, his, hval, hso2⟩ := solo_pop HLY.out.1 HSO.out (by omega) av
          have HC := Lib.hid (And.intro his (And.intro hval hso2))
          clear his hval hso2
          have c7 := hw.kM.cell 0
          have l7 := hw.kM.lt
          simp at c7
          go_wp2_with (first
            | (refine wpList_load_row rfl 31 (.tmp 6) rfl bL rfl 31 (lyC l) (0, 0) _ hw.kL Try.underlying31 rfl (by kernel_rfl) ?_)
            | (refine wpList_load_row rfl 39 (.tmp 12) rfl bO rfl 39 (oprC ⟨9, 0, av, 0⟩) (0, 0) _ kO Try.underlying39 rfl (by kernel_rfl) ?_))
          (with_reducible refine (alone_s _ HLY.out.2.1 (.inr (.inl rfl)) rfl hrun hK0 HSO.out.ml hs28.2 hs28.1 hw.om hal).mono ?_)
          rintro e w7 ⟨g2, c2, rfl, hg2, ho2, hb⟩
          have hne2 : ∀ a, A = some a → a.block ≠ g2 := by
            intro a e
            have h1 := hw.qu.2.2
            rcases h1 with ⟨h1, _⟩ | ⟨g', o', cur, h1, _, h3, _⟩
            · rw [h1] at e; cases e
            · rw [h1] at e
              injection e with e
              subst e
              have := h3.lt
              dsimp only
              omega
          have ho2 := own_lower ho2 hw.bl.size
          clear c7 l7 hg2
          replace hw := hw.keep hb
          replace kO := kO.keep hb
          clear hb hrun hal
          have n1 := (Bk.made w7 50 outZ).alloc (.cells #[.slice none 0 0] 37)
          have n2 := Bk.new (w7.alloc (.cells outZ 50)) (g := w7.heap.size + 1) (by simp) 37 #[.slice none 0 0]
          have n3 : Bk (((w7.alloc (.cells outZ 50)).alloc (.cells #[.slice none 0 0] 37)).setRow w7.heap.size (outC val is 0 pt)) (w7.heap.size + 1) 37 #[.slice none 0 0] := (setRow_other _ _ _ _ (by omega)).trans n2
          have f1 : Bk ((((w7.alloc (.cells outZ 50)).alloc (.cells #[.slice none 0 0] 37)).setRow w7.heap.size (outC val is 0 pt)).setRow (w7.heap.size + 1) #[.slice (some ⟨g2, 0, none⟩) sz c2]) w7.heap.size 50 (outC val is 0 pt) := (setRow_other _ _ _ _ (by omega)).trans (setRow_heap _ _ outZ (outC val is 0 pt) 50 (0, 0) n1)
          have f2 : Bk ((((w7.alloc (.cells outZ 50)).alloc (.cells #[.slice none 0 0] 37)).setRow w7.heap.size (outC val is 0 pt)).setRow (w7.heap.size + 1) #[.slice (some ⟨g2, 0, none⟩) sz c2]) (w7.heap.size + 1) 37 #[.slice (some ⟨g2, 0, none⟩) sz c2] := setRow_heap _ _ #[.slice none 0 0] #[.slice (some ⟨g2, 0, none⟩) sz c2] 37 (0, 0) n3
          have hbb : Below w7.heap.size w7 ((((w7.alloc (.cells outZ 50)).alloc (.cells #[.slice none 0 0] 37)).setRow w7.heap.size (outC val is 0 pt)).setRow (w7.heap.size + 1) #[.slice (some ⟨g2, 0, none⟩) sz c2]) := (((below_al (below_al (Below.refl _ _) _) _).trans (below_setRow1 (Nat.le_refl _) _)).trans (below_setRow1 (Nat.le_succ _) _))
          have H3 := Lib.hid (And.intro f1 (And.intro f2 (And.intro (hw.keep hbb) (And.intro (kO.keep hbb) (own_keepb' (show World.ownsRow w7 w.heap.size 3 1 (.slice (some ⟨g2, 0, none⟩) sz c2) m2.length (ints m2) from ho2) hbb : OwnInts _ w.heap.size (.slice (some ⟨g2, 0, none⟩) sz c2) m2)))))
          clear f1 f2 hbb n2 hw kO ho2
          go_upto_region 16 with (first
            | (refine wpList_store_rowTo rfl 50 (.tmp 13) (.tmp 57) rfl rfl w7.heap.size (outC val is 0 pt) rfl rfl 50 outZ n1 (by kernel_rfl) rfl (by simp [Value.oneCell']) ?_)
            | (refine wpList_store_rowTo rfl 37 (.tmp 14) (.tmp 58) rfl rfl (w7.heap.size + 1) #[.slice (some ⟨g2, 0, none⟩) sz c2] rfl rfl 37 #[.slice none 0 0] n3 (by kernel_rfl) rfl (by simp [Value.oneCell']) ?_))
          clear n1 n3
          obtain ⟨f1, f2, hw, kO, ho2⟩ := H3.out
          clear H3
          replace ho2 : OwnInts _ w.heap.size (.slice (some ⟨g2, 0, none⟩) sz c2) m2 := ho2
          show Code.wp Try.prog _ _ _ ((((w7.alloc (.cells outZ 50)).alloc (.cells #[.slice none 0 0] 37)).setRow w7.heap.size (outC val is 0 pt)).setRow (w7.heap.size + 1) #[.slice (some ⟨g2, 0, none⟩) sz c2])
          generalize (((w7.alloc (.cells outZ 50)).alloc (.cells #[.slice none 0 0] 37)).setRow w7.heap.size (outC val is 0 pt)).setRow (w7.heap.size + 1) #[.slice (some ⟨g2, 0, none⟩) sz c2] = w8 at *
          obtain ⟨gA, hgA⟩ : ∃ g, w7.heap.size = g := ⟨_, rfl⟩
          obtain ⟨gB, hgB⟩ : ∃ g, w7.heap.size + 1 = g := ⟨_, rfl⟩
          rw [hgA] at f1
          rw [hgB] at f2
          rw [hgB, hgA]
          clear hgA hgB
          have o0 := f1.cell 0
          have o1 := f1.cell 1
          have o2 := f1.cell 2
          have lO := f1.lt
          have p0 := kO.cell 0
          have p2 := kO.cell 2
          have lP := kO.lt
          simp at o0 o1 o2 p0 p2
          obtain ⟨rfl, hval, hso2⟩ := HC.out
          clear HC
          rw [hqn] at hval hso2
          have e0 : (0 : Int) = 0 := rfl
          clear e0
          by_cases h0 : n = 0
          · subst h0
            have hrow0 : row = [] := List.eq_nil_of_length_eq_zero hqn
            have e1 : decide (0 < row.length) = false := by rw [hqn]; rfl
            rw [e1] at o1
            have HSN : Hid (SoI l sz (i + 1) m2 row size) := Lib.hid (by have h := hso2; rw [hrow0] at h ⊢; exact h)
            have HBM := Lib.hid hw.bM
            have hbl := hw.bl
            have kL := hw.kL
            have kM := hw.kM
            have hqu := hw.qu
            have HV := Lib.hid hval
            clear hval hso2 hw e1 hrow0 f1 kO
            go_upto_region 43 with fail
            clear o0 o1 o2 p0 p2 lO lP
            generalize w8 = w9 at *
            have c14 := f2.cell 0
            have l14 := f2.lt
            have f7 := kM.free 0
            have l7 := kM.lt
            have c7 := kM.cell 0
            simp at c14 c7
            have HW2 := Lib.hid (SoW.next hbl kL kM ho2 hqu hne2 HBM.out)
            clear hbl kL kM ho2 hqu hne2 f2
            go_upto_region 44 with fail
            clear c14 l14 f7 l7 c7
            have hw2 := HW2.out
            clear HW2
            generalize w9.setCell ⟨bM, 0, none⟩ (.slice (some ⟨g2, 0, none⟩) sz c2) = w10 at *
            have c7 := hw2.kM.cell 0
            have l7 := hw2.kM.lt
            simp at c7
            go_wp2_with (refine wpList_load_row rfl 31 (.tmp 6) rfl bL rfl 31 (lyC l) (0, 0) _ hw2.kL Try.underlying31 rfl (by kernel_rfl) ?_)
            (with_reducible refine (row_s HLY.out.1 HLY.out.2.1 HSN.out (by omega) hw2.om hs28.2).mono ?_)
            rintro e w11 ⟨A11, c11, rfl, hsl, hb⟩
            replace hw2 := hw2.keep hb
            have hqn2 := hw2.qu.1
            rw [hqn2]
            clear hb c7 l7
            go_wp2_with fail
            (with_reducible refine (ints_s hsl hw2.qu.sl hqn2 (by omega)).mono ?_)
            rintro e w12 ⟨rfl, hb⟩
            replace hw2 := hw2.keep hb
            have HR := Lib.hid (show SoR l sz bL bM ops w (.int .i64 (size)) (.slice A (0) (c)) (.int .i64 ((i + 1 : Nat) : Int)) w12 from ⟨i + 1, _, _, _, _, _, _, _, _, by omega, rfl, rfl, rfl, HSN.out, hw2⟩)
            clear hb hsl hw2 hqn2
            go_wp2_with fail
            go_roundw
            case rel => exact HR.out
            case measure => simp [intOf]; omega
          obtain ⟨q, rfl⟩ : ∃ q, n = q + 1 := ⟨n - 1, by omega⟩
          have e1 : decide (0 < row.length) = true := by rw [hqn]; simp
          rw [e1] at o1
          have hv := hval (by omega)
          rw [show q + 1 - 1 = q by omega] at hv hso2
          have HSN : Hid (SoI l sz (i + 1) m2 (row.take q) size) := Lib.hid hso2
          have hqc := hw.qu.2.1
          have hrow : ∃ gq oq, A = some ⟨gq, oq, none⟩ ∧ w8.cell? ⟨gq, oq + q, none⟩ = some (.int .i64 val) ∧ gq < w8.heap.size := by
            rcases hw.qu.2.2 with ⟨_, h1⟩ | ⟨g', o', cur, h1, _, h2, _, h3⟩
            · omega
            · exact ⟨g', o', h1, by rw [h2.cell]; exact h3 q val hv, h2.lt⟩
          obtain ⟨gq, oq, hAq, cq, lq⟩ := hrow
          have hqu := hw.qu.front
          have HBM := Lib.hid hw.bM
          have hbl := hw.bl
          have kL := hw.kL
          have kM := hw.kM
          have e2 : IntKind.i64.wrap (((q + 1 : Nat) : Int) - 1) = (q : Int) := by rw [IntWalk.i64_in _ (by omega)]; omega
          have e3 : (0 : Int) < ((q + 1 : Nat) : Int) := by omega
          have e4 : decide (((q + 1 : Nat) : Int) > 0) = true := by simp <;> omega
          subst hAq
          have HX := Lib.hid (And.intro hqn (And.intro HSN (And.intro hval hso2)))
          clear hval hso2 hw e1 hv f1 kO hqn
          obtain ⟨n1, hn1⟩ : ∃ n1, q + 1 = n1 := ⟨_, rfl⟩
          rw [hn1] at e2 e3 e4 hqc ⊢
          have e5 : (q : Int) < n1 := by omega
          have e6 : q ≤ c := by omega
          go_upto_region 40 with fail
          go_region
          go_upto_region 43 with fail
          clear o0 o1 o2 p0 p2 lO lP cq lq e2 e3 e4 e5 e6
          have hd := below_drew' (Below.refl w8.heap.size w8)
          replace hbl := below_tr hbl hd
          replace kL := kL.keep hd
          replace kM := kM.keep hd
          replace f2 := f2.keep hd
          replace hqu := hqu.keep hd
          replace ho2 : OwnInts w8.drew w.heap.size (.slice (some ⟨g2, 0, none⟩) sz c2) m2 := own_keepb' (show World.ownsRow w8 w.heap.size 3 1 (.slice (some ⟨g2, 0, none⟩) sz c2) m2.length (ints m2) from ho2) hd
          clear hd
          generalize w8.drew = w9 at *
          have c14 := f2.cell 0
          have l14 := f2.lt
          have f7 := kM.free 0
          have l7 := kM.lt
          have c7 := kM.cell 0
          simp at c14 c7
          have HW2 := Lib.hid (SoW.next hbl kL kM ho2 hqu hne2 HBM.out)
          clear hbl kL kM ho2 hqu hne2 f2
          go_upto_region 44 with fail
          clear c14 l14 f7 l7 c7
          have hw2 := HW2.out
          clear HW2
          generalize w9.setCell ⟨bM, 0, none⟩ (.slice (some ⟨g2, 0, none⟩) sz c2) = w10 at *
          have c7 := hw2.kM.cell 0
          have l7 := hw2.kM.lt
          simp at c7
          go_wp2_with (refine wpList_load_row rfl 31 (.tmp 6) rfl bL rfl 31 (lyC l) (0, 0) _ hw2.kL Try.underlying31 rfl (by kernel_rfl) ?_)
          (with_reducible refine (row_s HLY.out.1 HLY.out.2.1 HSN.out (by omega) hw2.om hs28.2).mono ?_)
          rintro e w11 ⟨A11, c11, rfl, hsl, hb⟩
          replace hw2 := hw2.keep hb
          have hqn2 := hw2.qu.1
          rw [hqn2]
          clear hb c7 l7
          go_wp2_with fail
          (with_reducible refine (ints_s hsl hw2.qu.sl hqn2 (by omega)).mono ?_)
          rintro e w12 ⟨rfl, hb⟩
          replace hw2 := hw2.keep hb
          have HR := Lib.hid (show SoR l sz bL bM ops w (.int .i64 (size)) (.slice (some ⟨gq, oq, none⟩) (q) (c)) (.int .i64 ((i + 1 : Nat) : Int)) w12 from ⟨i + 1, _, _, _, _, _, _, _, _, by omega, rfl, rfl, rfl, HSN.out, hw2⟩)
          clear hb hsl hw2 hqn2
          go_wp2_with fail
          go_roundw
          case rel => exact HR.out
          case measure => simp [intOf]; omega
        · have hmod : (y : Int) % 4 = 3 := by omega
          go_upto_region 15 with fail
          clear cy hmod hbTr g1 h5
          have hba := below_al (below_al (Below.refl wr.heap.size wr) (.cells #[.int .i64 8, .int .i64 8, .int .i64 9, .int .i64 10] 3)) (.cells (oprC ⟨10, 0, av, 0⟩) 39)
          have kO := Bk.new (wr.alloc (.cells #[.int .i64 8, .int .i64 8, .int .i64 9, .int .i64 10] 3)) (g := wr.heap.size + 1) (by simp) 39 (oprC ⟨10, 0, av, 0⟩)
          have hw := HW.out.keep hba
          clear HW hba lL hbM
          generalize (wr.alloc (.cells #[.int .i64 8, .int .i64 8, .int .i64 9, .int .i64 10] 3)).alloc (.cells (oprC ⟨10, 0, av, 0⟩) 39) = w6 at *
          generalize wr.heap.size + 1 = bO at *
          obtain ⟨K, val, is, err, pt, m2, hrun, hal, hK0, his, herr, hval, hso2⟩ := solo_steal HLY.out.1 HSO.out (by omega) av
          have HC := Lib.hid (And.intro his (And.intro herr (And.intro hval hso2)))
          clear his herr hval hso2
          have c7 := hw.kM.cell 0
          have l7 := hw.kM.lt
          simp at c7
          go_wp2_with (first
            | (refine wpList_load_row rfl 31 (.tmp 6) rfl bL rfl 31 (lyC l) (0, 0) _ hw.kL Try.underlying31 rfl (by kernel_rfl) ?_)
            | (refine wpList_load_row rfl 39 (.tmp 12) rfl bO rfl 39 (oprC ⟨10, 0, av, 0⟩) (0, 0) _ kO Try.underlying39 rfl (by kernel_rfl) ?_))
          (with_reducible refine (alone_s _ HLY.out.2.1 (.inr (.inr rfl)) rfl hrun hK0 HSO.out.ml hs28.2 hs28.1 hw.om hal).mono ?_)
          rintro e w7 ⟨g2, c2, rfl, hg2, ho2, hb⟩
          have hne2 : ∀ a, A = some a → a.block ≠ g2 := by
            intro a e
            have h1 := hw.qu.2.2
            rcases h1 with ⟨h1, _⟩ | ⟨g', o', cur, h1, _, h3, _⟩
            · rw [h1] at e; cases e
            · rw [h1] at e
              injection e with e
              subst e
              have := h3.lt
              dsimp only
              omega
          have ho2 := own_lower ho2 hw.bl.size
          clear c7 l7 hg2
          replace hw := hw.keep hb
          replace kO := kO.keep hb
          clear hb hrun hal
          have n1 := (Bk.made w7 50 outZ).alloc (.cells #[.slice none 0 0] 37)
          have n2 := Bk.new (w7.alloc (.cells outZ 50)) (g := w7.heap.size + 1) (by simp) 37 #[.slice none 0 0]
          have n3 : Bk (((w7.alloc (.cells outZ 50)).alloc (.cells #[.slice none 0 0] 37)).setRow w7.heap.size (outC val is err pt)) (w7.heap.size + 1) 37 #[.slice none 0 0] := (setRow_other _ _ _ _ (by omega)).trans n2
          have f1 : Bk ((((w7.alloc (.cells outZ 50)).alloc (.cells #[.slice none 0 0] 37)).setRow w7.heap.size (outC val is err pt)).setRow (w7.heap.size + 1) #[.slice (some ⟨g2, 0, none⟩) sz c2]) w7.heap.size 50 (outC val is err pt) := (setRow_other _ _ _ _ (by omega)).trans (setRow_heap _ _ outZ (outC val is err pt) 50 (0, 0) n1)
          have f2 : Bk ((((w7.alloc (.cells outZ 50)).alloc (.cells #[.slice none 0 0] 37)).setRow w7.heap.size (outC val is err pt)).setRow (w7.heap.size + 1) #[.slice (some ⟨g2, 0, none⟩) sz c2]) (w7.heap.size + 1) 37 #[.slice (some ⟨g2, 0, none⟩) sz c2] := setRow_heap _ _ #[.slice none 0 0] #[.slice (some ⟨g2, 0, none⟩) sz c2] 37 (0, 0) n3
          have hbb : Below w7.heap.size w7 ((((w7.alloc (.cells outZ 50)).alloc (.cells #[.slice none 0 0] 37)).setRow w7.heap.size (outC val is err pt)).setRow (w7.heap.size + 1) #[.slice (some ⟨g2, 0, none⟩) sz c2]) := (((below_al (below_al (Below.refl _ _) _) _).trans (below_setRow1 (Nat.le_refl _) _)).trans (below_setRow1 (Nat.le_succ _) _))
          have H3 := Lib.hid (And.intro f1 (And.intro f2 (And.intro (hw.keep hbb) (And.intro (kO.keep hbb) (own_keepb' (show World.ownsRow w7 w.heap.size 3 1 (.slice (some ⟨g2, 0, none⟩) sz c2) m2.length (ints m2) from ho2) hbb : OwnInts _ w.heap.size (.slice (some ⟨g2, 0, none⟩) sz c2) m2)))))
          clear f1 f2 hbb n2 hw kO ho2
          go_upto_region 16 with (first
            | (refine wpList_store_rowTo rfl 50 (.tmp 13) (.tmp 57) rfl rfl w7.heap.size (outC val is err pt) rfl rfl 50 outZ n1 (by kernel_rfl) rfl (by simp [Value.oneCell']) ?_)
            | (refine wpList_store_rowTo rfl 37 (.tmp 14) (.tmp 58) rfl rfl (w7.heap.size + 1) #[.slice (some ⟨g2, 0, none⟩) sz c2] rfl rfl 37 #[.slice none 0 0] n3 (by kernel_rfl) rfl (by simp [Value.oneCell']) ?_))
          clear n1 n3
          obtain ⟨f1, f2, hw, kO, ho2⟩ := H3.out
          clear H3
          replace ho2 : OwnInts _ w.heap.size (.slice (some ⟨g2, 0, none⟩) sz c2) m2 := ho2
          show Code.wp Try.prog _ _ _ ((((w7.alloc (.cells outZ 50)).alloc (.cells #[.slice none 0 0] 37)).setRow w7.heap.size (outC val is err pt)).setRow (w7.heap.size + 1) #[.slice (some ⟨g2, 0, none⟩) sz c2])
          generalize (((w7.alloc (.cells outZ 50)).alloc (.cells #[.slice none 0 0] 37)).setRow w7.heap.size (outC val is err pt)).setRow (w7.heap.size + 1) #[.slice (some ⟨g2, 0, none⟩) sz c2] = w8 at *
          obtain ⟨gA, hgA⟩ : ∃ g, w7.heap.size = g := ⟨_, rfl⟩
          obtain ⟨gB, hgB⟩ : ∃ g, w7.heap.size + 1 = g := ⟨_, rfl⟩
          rw [hgA] at f1
          rw [hgB] at f2
          rw [hgB, hgA]
          clear hgA hgB
          have o0 := f1.cell 0
          have o1 := f1.cell 1
          have o2 := f1.cell 2
          have lO := f1.lt
          have p0 := kO.cell 0
          have p2 := kO.cell 2
          have lP := kO.lt
          simp at o0 o1 o2 p0 p2
          obtain ⟨rfl, herr, hval, hso2⟩ := HC.out
          clear HC
          rw [hqn] at hval herr
          by_cases h0 : n = 0
          · subst h0
            have hrow0 : row = [] := List.eq_nil_of_length_eq_zero hqn
            have e1 : decide (0 < row.length) = false := by rw [hqn]; rfl
            rw [e1] at o1
            have he16 := herr.2 rfl
            subst he16
            have HSN : Hid (SoI l sz (i + 1) m2 row size) := Lib.hid (by have h := hso2; rw [hrow0] at h ⊢; exact h)
            have HBM := Lib.hid hw.bM
            have hbl := hw.bl
            have kL := hw.kL
            have kM := hw.kM
            have hqu := hw.qu
            have HV := Lib.hid hval
            clear hval hso2 hw e1 hrow0 f1 kO herr
            go_upto_region 43 with fail
            clear o0 o1 o2 p0 p2 lO lP
            generalize w8 = w9 at *
            have c14 := f2.cell 0
            have l14 := f2.lt
            have f7 := kM.free 0
            have l7 := kM.lt
            have c7 := kM.cell 0
            simp at c14 c7
            have HW2 := Lib.hid (SoW.next hbl kL kM ho2 hqu hne2 HBM.out)
            clear hbl kL kM ho2 hqu hne2 f2
            go_upto_region 44 with fail
            clear c14 l14 f7 l7 c7
            have hw2 := HW2.out
            clear HW2
            generalize w9.setCell ⟨bM, 0, none⟩ (.slice (some ⟨g2, 0, none⟩) sz c2) = w10 at *
            have c7 := hw2.kM.cell 0
            have l7 := hw2.kM.lt
            simp at c7
            go_wp2_with (refine wpList_load_row rfl 31 (.tmp 6) rfl bL rfl 31 (lyC l) (0, 0) _ hw2.kL Try.underlying31 rfl (by kernel_rfl) ?_)
            (with_reducible refine (row_s HLY.out.1 HLY.out.2.1 HSN.out (by omega) hw2.om hs28.2).mono ?_)
            rintro e w11 ⟨A11, c11, rfl, hsl, hb⟩
            replace hw2 := hw2.keep hb
            have hqn2 := hw2.qu.1
            rw [hqn2]
            clear hb c7 l7
            go_wp2_with fail
            (with_reducible refine (ints_s hsl hw2.qu.sl hqn2 (by omega)).mono ?_)
            rintro e w12 ⟨rfl, hb⟩
            replace hw2 := hw2.keep hb
            have HR := Lib.hid (show SoR l sz bL bM ops w (.int .i64 (size)) (.slice A (0) (c)) (.int .i64 ((i + 1 : Nat) : Int)) w12 from ⟨i + 1, _, _, _, _, _, _, _, _, by omega, rfl, rfl, rfl, HSN.out, hw2⟩)
            clear hb hsl hw2 hqn2
            go_wp2_with fail
            go_roundw
            case rel => exact HR.out
            case measure => simp [intOf]; omega
          obtain ⟨q, rfl⟩ : ∃ q, n = q + 1 := ⟨n - 1, by omega⟩
          have e1 : decide (0 < row.length) = true := by rw [hqn]; simp
          rw [e1] at o1
          have hne16 : ¬ err = 16 := fun e => by have := herr.1 e; omega
          have e7 : (err == 16) = false := by simpa using hne16
          have e8 : decide (err = 16) = false := by simpa using hne16
          have hv := hval (by omega)
          have HSN : Hid (SoI l sz (i + 1) m2 (row.drop 1) size) := Lib.hid hso2
          have hqc := hw.qu.2.1
          have hrow : ∃ gq oq, A = some ⟨gq, oq, none⟩ ∧ w8.cell? ⟨gq, oq, none⟩ = some (.int .i64 val) ∧ gq < w8.heap.size := by
            rcases hw.qu.2.2 with ⟨_, h1⟩ | ⟨g', o', cur, h1, _, h2, _, h3⟩
            · omega
            · exact ⟨g', o', h1, by rw [h2.cell]; exact h3 0 val hv, h2.lt⟩
          obtain ⟨gq, oq, hAq, cq, lq⟩ := hrow
          have hqu := hw.qu.tail
          replace hne2 := tailA_ne (c := c) hne2
          have HBM := Lib.hid hw.bM
          have hbl := hw.bl
          have kL := hw.kL
          have kM := hw.kM
          have e3 : (0 : Int) < ((q + 1 : Nat) : Int) := by omega
          have e4 : decide (((q + 1 : Nat) : Int) > 0) = true := by simp <;> omega
          have e9 : (((q + 1 : Nat) : Int) == 0) = false := by simp; omega
          have e10 : decide (((q + 1 : Nat) : Int) = 0) = false := by simp; omega
          have HAq := Lib.hid hAq
          subst hAq
          have HX := Lib.hid (And.intro hqn (And.intro HSN (And.intro hval hso2)))
          clear hval hso2 hw e1 hv f1 kO hqn herr hne16
          obtain ⟨n1, hn1⟩ : ∃ n1, q + 1 = n1 := ⟨_, rfl⟩
          rw [hn1] at e3 e4 e9 e10 ⊢
          go_upto_region 22 with fail
          go_region
          rw [← hn1]
          go_upto_region 43 with (refine wpList_tail rfl (.tmp 87) _ rfl rfl rfl hqc ?_)
          clear o0 o1 o2 p0 p2 lO lP cq lq e3 e4 e7 e8 e9 e10
          have hd := below_drew' (Below.refl w8.heap.size w8)
          replace hbl := below_tr hbl hd
          replace kL := kL.keep hd
          replace kM := kM.keep hd
          replace f2 := f2.keep hd
          replace hqu := hqu.keep hd
          replace ho2 : OwnInts w8.drew w.heap.size (.slice (some ⟨g2, 0, none⟩) sz c2) m2 := own_keepb' (show World.ownsRow w8 w.heap.size 3 1 (.slice (some ⟨g2, 0, none⟩) sz c2) m2.length (ints m2) from ho2) hd
          clear hd
          generalize w8.drew = w9 at *
          have c14 := f2.cell 0
          have l14 := f2.lt
          have f7 := kM.free 0
          have l7 := kM.lt
          have c7 := kM.cell 0
          simp at c14 c7
          have HW2 := Lib.hid (SoW.next hbl kL kM ho2 hqu hne2 HBM.out)
          clear hbl kL kM ho2 hqu hne2 f2
          go_upto_region 44 with fail
          clear c14 l14 f7 l7 c7
          have hw2 := HW2.out
          clear HW2
          generalize w9.setCell ⟨bM, 0, none⟩ (.slice (some ⟨g2, 0, none⟩) sz c2) = w10 at *
          have c7 := hw2.kM.cell 0
          have l7 := hw2.kM.lt
          simp at c7
          go_wp2_with (refine wpList_load_row rfl 31 (.tmp 6) rfl bL rfl 31 (lyC l) (0, 0) _ hw2.kL Try.underlying31 rfl (by kernel_rfl) ?_)
          (with_reducible refine (row_s HLY.out.1 HLY.out.2.1 HSN.out (by omega) hw2.om hs28.2).mono ?_)
          rintro e w11 ⟨A11, c11, rfl, hsl, hb⟩
          replace hw2 := hw2.keep hb
          have hqn2 := hw2.qu.1
          rw [hqn2]
          clear hb c7 l7
          go_wp2_with fail
          (with_reducible refine (ints_s hsl hw2.qu.sl hqn2 (by omega)).mono ?_)
          rintro e w12 ⟨rfl, hb⟩
          replace hw2 := hw2.keep hb
          have HR := Lib.hid (show SoR l sz bL bM ops w (.int .i64 (size)) (.slice (tailA (some ⟨gq, oq, none⟩) c) (q) (c - 1)) (.int .i64 ((i + 1 : Nat) : Int)) w12 from ⟨i + 1, _, _, _, _, _, _, _, _, by omega, rfl, rfl, rfl, HSN.out, hw2⟩)
          clear hb hsl hw2 hqn2
          go_wp2_with fail
          go_roundw
          case rel => exact HR.out
          case measure => simp [intOf]; omega
end Go.Proofs.Ytdjglkpcdhkodaa
