/- era's give: a node is given back, by another's accesses. era's sift. Printed by sift_gen.py. era's retire. Printed by ret_gen.py. era's may. -/
import Derived.Test.YtgjdjgainjedhaaArN
namespace Go.Proofs.Ytgjdjgainjedhaa
open Go.RowKit
set_option linter.unusedVariables false
attribute [local go_sem ↓] Go.wp_at_zero Go.wp_at_succ

theorem own_keepS {w w' : World} {gp base n sz : Nat} {e : TypeId} {v : Value} {xs : List Value} (h : w.ownsRow base e sz v n xs) (s : Stp gp w w') (hlt : gp < base) : w'.ownsRow base e sz v n xs := by
  rcases h.2 with h1 | ⟨g, cap, cur, h1, h2, h3, h4⟩
  · exact ⟨h.1, .inl h1⟩
  · exact ⟨h.1, .inr ⟨g, cap, cur, h1, h2, (s.block g (Array.getElem?_eq_some_iff.1 h3).1 (by omega)).trans h3, h4⟩⟩
theorem below_setRow0 {B : Nat} {w : World} {g : Nat} (hg : B ≤ g) (cs : Array Value) : Below B w (w.setRow g cs) :=
  ⟨rfl, rfl, rfl, by simp [World.setRow], fun k hk => setRow_other w g k cs (by omega)⟩
theorem nil_ok : NilOk none 0 0 := fun _ => ⟨rfl, rfl⟩
theorem sl_nilG (w : World) (B : Nat) (A : Option Addr) : SlGone w B A [] := fun h => absurd h (Nat.lt_irrefl 0)
theorem below_less {B B' : Nat} {w w' : World} (h : Below B w w') (hB : B' ≤ B) : Below B' w w' := ⟨h.os, h.tape, h.output, h.size, fun b hb => h.block b (by omega)⟩
theorem stp_own {gp : Nat} {w w1 w2 : World} (h : Stp gp w w1) (hb : Below w.heap.size w1 w2) : Stp gp w w2 :=
  ⟨hb.os.trans h.os, hb.tape.trans h.tape, hb.output.trans h.output, Nat.le_trans h.size hb.size, fun b h1 h2 => (hb.block b h1).trans (h.block b h1 h2)⟩
/-- Where the giver is, when its own log is L. -/
def giveQ (l : Ly) (held : List Int) (stays : Gone) (g : Int × Int) (rest : Gone) (L : Log) : EPh :=
  match giveM l g.1 0 L with
  | .ask _ _ _ _ => .rg held stays g rest L
  | .out _ _ _ _ => siftN held stays rest
def GivePost (B gp : Nat) (p : Pg) (A : Option Addr) (gv : Value) (log : Log) (a : Int) (gone : Gone) (held : List Int) (stays : Gone) (g : Int × Int) (rest : Gone) (q : EPh) (w : World) (e : Ending) (w' : World) : Prop :=
  (∃ k c o v L, e = .panicked [{ v := askE k c o v, recovered := false }] ∧ Stp gp w w' ∧ q = .rg held stays g rest L ∧ giveM p.l g.1 0 L = .ask k c o v) ∨
  (∃ i, e = .returned (.tuple #[]) ∧ Stp gp w w' ∧ i ≤ log.length ∧ PeSt w' B gp p A gv i log ∧ q = ef p.l a gone (siftN held stays rest) (log.drop i))
def GiRel (B gp bL : Nat) (p : Pg) (A : Option Addr) (gv : Value) (log : Log) (a : Int) (gone : Gone) (held : List Int) (stays : Gone) (g : Int × Int) (rest : Gone) (q : EPh) (i0 : Nat) (w : World) (v6 : Value) (wr : World) : Prop :=
  ∃ (i : Nat) (L : Log), i ≤ log.length ∧ i0 + L.length = i ∧ PeSt wr B gp p A gv i log ∧ Stp gp w wr ∧ Bk wr bL 40 (lyC p.l) ∧ OwnRes wr w.heap.size v6 L ∧ q = ef p.l a gone (giveQ p.l held stays g rest L) (log.drop i)
def clV (gp : Nat) : Value := .func (.func 51) #[ptr gp] #[]
set_option maxRecDepth 100000 in
set_option maxHeartbeats 4000000 in
theorem egive_any {w : World} {B gp : Nat} {p : Pg} {A : Option Addr} {gv : Value} {log : Log} {a : Int} {gone : Gone} {held : List Int} {stays : Gone} {g : Int × Int} {rest : Gone} {i0 : Nat} (h : PeSt w B gp p A gv i0 log) (hi : i0 ≤ log.length) (f : LyFull p.l) (hg1 : g.1 ≤ 9223372036854775807) :
    Calls Try.prog 59 #[lyV p.l, .int .i64 g.1, clV gp] w (GivePost B gp p A gv log a gone held stays g rest (ef p.l a gone (.rg held stays g rest []) (log.drop i0)) w) := by
  have HF := Lib.hid f
  have zg := h.kp.lt
  have hle := h.le
  obtain ⟨q, hq⟩ : ∃ q, ef p.l a gone (.rg held stays g rest []) (log.drop i0) = q := ⟨_, rfl⟩
  rw [hq]
  have hal := below_al (Below.refl w.heap.size w) (.cells (lyC p.l) 40)
  have HR := Lib.hid (show GiRel B gp w.heap.size p A gv log a gone held stays g rest q i0 w (.slice none 0 0) (w.alloc (.cells (lyC p.l) 40)) from ⟨i0, [], hi, rfl, h.keep hal, (Stp.refl gp w).alloc _, Bk.made w 40 (lyC p.l), World.ownsRow_nil _ _ _ _, hq.symm⟩)
  clear h f hi hal hq
  unfold clV
  go_enter Try.func59, Try.ntmps59
  go_upto_region 1 with fail
  generalize w.alloc (.cells (lyC p.l) 40) = w1 at *
  obtain ⟨bL, hbL⟩ : ∃ g, w.heap.size = g := ⟨_, rfl⟩
  have HZ := Lib.hid hbL
  rw [hbL] at zg ⊢
  have HR2 : Hid (GiRel B gp bL p A gv log a gone held stays g rest q i0 w (.slice none 0 0) w1) := Lib.hid (by have := HR.out; rw [hbL] at this; exact this)
  clear HR hbL
  go_wp2_with fail
  go_loopw [6] (fun v6 wr => GiRel B gp bL p A gv log a gone held stays g rest q i0 w v6 wr) (fun _ wr => log.length + 1 - madeE gp wr)
  case atStart => exact HR2.out
  case round =>
    clear HR2
    obtain ⟨i, L, hi, hiL, hp, hst, kL, hown, hqq⟩ := hrel
    obtain ⟨G6, c6, rfl⟩ := own_slice hown
    have hmd := madeE_eq hp.kp
    have HQ := Lib.hid (And.intro hqq hmd)
    have hL1 : L.length ≤ 1000 := by omega
    clear hqq hmd
    have lL := kL.lt
    go_wp2_with (refine wpList_load_row rfl 40 (.tmp 3) rfl bL rfl 40 (lyC p.l) (0, 0) _ kL Try.underlying40 rfl (by kernel_rfl) ?_)
    (with_reducible refine (next_any p.l 0 ⟨2, 0, g.1, 0⟩ none 0 0 [] G6 c6 L _ HF.out rfl nil_ok (sl_nilG _ _ _) (Nat.zero_le _) hg1 (own_slRes hown) hL1).mono ?_)
    intro e w2 hpost
    have hnx : nextR p.l ⟨2, 0, g.1, 0⟩ L = giveM p.l g.1 0 L := rfl
    rw [hnx] at hpost
    clear hnx lL
    obtain ⟨ans, hans⟩ : ∃ x, giveM p.l g.1 0 L = x := ⟨_, rfl⟩
    rw [hans] at hpost
    cases ans with
    | out val is err pt =>
      obtain ⟨G9, n9, c9, -, -, -, rfl, hb⟩ := hpost
      have hq2 : q = ef p.l a gone (siftN held stays rest) (log.drop i) := by rw [HQ.out.1]; unfold giveQ; rw [hans]
      replace hp := hp.keep hb
      replace hst := hst.trans (Stp.of_below gp hb)
      have n1 := (Bk.made w2 61 accZ).alloc (.cells outZ 63)
      have n2 := Bk.new (w2.alloc (.cells accZ 61)) (g := w2.heap.size + 1) (by simp) 63 outZ
      have n3 : Bk (((w2.alloc (.cells accZ 61)).alloc (.cells outZ 63)).setRow w2.heap.size accZ) (w2.heap.size + 1) 63 outZ := (setRow_other _ _ _ _ (by omega)).trans n2
      have hbb : Below w2.heap.size w2 ((((w2.alloc (.cells accZ 61)).alloc (.cells outZ 63)).setRow w2.heap.size accZ).setRow (w2.heap.size + 1) (outG val is err pt (.slice G9 n9 c9))) := (((below_al (below_al (Below.refl _ _) _) _).trans (below_setRow0 (Nat.le_refl _) _)).trans (below_setRow0 (Nat.le_succ _) _))
      have HE := Lib.hid (show GivePost B gp p A gv log a gone held stays g rest q w (.returned (.tuple #[])) _ from .inr ⟨i, rfl, hst.trans (Stp.of_below gp hbb), hi, hp.keep hbb, hq2⟩)
      clear hbb n2 hp hst hown kL hq2 HQ hb
      go_wp2_with (first
        | (refine wpList_store_rowTo rfl 61 (.tmp 7) (.tmp 16) rfl rfl w2.heap.size accZ rfl rfl 61 accZ n1 (by kernel_rfl) rfl (by simp [Value.oneCell']) ?_)
        | (refine wpList_store_rowTo rfl 63 (.tmp 8) (.tmp 17) rfl rfl (w2.heap.size + 1) (outG val is err pt (.slice G9 n9 c9)) rfl rfl 63 outZ n3 (by kernel_rfl) rfl (by simp [Value.oneCell']) ?_))
      exact bodyPost_ret (v := .tuple #[]) (results_none rfl _ _ _) rfl HE.out
    | ask k c o v =>
      obtain ⟨rfl, hb⟩ := hpost
      have hq2 : q = ef p.l a gone (.rg held stays g rest L) (log.drop i) := by rw [HQ.out.1]; unfold giveQ; rw [hans]
      have HQ2 := Lib.hid (And.intro hq2 (And.intro HQ.out.2 hans))
      clear hq2 HQ hans
      replace hp := hp.keep hb
      replace hst := hst.trans (Stp.of_below gp hb)
      replace kL := kL.keep hb
      have hown2 : OwnRes w2 w.heap.size (.slice G6 L.length c6) L := own_keepb' (show World.ownsRow wr w.heap.size 67 2 (.slice G6 L.length c6) L.length (resCells L) from hown) hb
      clear hown hb
      have n1 := (Bk.made w2 61 accZ).alloc (.cells outZ 63)
      have n2 := Bk.new (w2.alloc (.cells accZ 61)) (g := w2.heap.size + 1) (by simp) 63 outZ
      have n3 : Bk (((w2.alloc (.cells accZ 61)).alloc (.cells outZ 63)).setRow w2.heap.size (accC k c o v)) (w2.heap.size + 1) 63 outZ := (setRow_other _ _ _ _ (by omega)).trans n2
      have f1 : Bk ((((w2.alloc (.cells accZ 61)).alloc (.cells outZ 63)).setRow w2.heap.size (accC k c o v)).setRow (w2.heap.size + 1) outZ) w2.heap.size 61 (accC k c o v) := (setRow_other _ _ _ _ (by omega)).trans (setRow_heap _ _ accZ (accC k c o v) 61 (0, 0) n1)
      have hbb : Below w2.heap.size w2 ((((w2.alloc (.cells accZ 61)).alloc (.cells outZ 63)).setRow w2.heap.size (accC k c o v)).setRow (w2.heap.size + 1) outZ) := (((below_al (below_al (Below.refl _ _) _) _).trans (below_setRow0 (Nat.le_refl _) _)).trans (below_setRow0 (Nat.le_succ _) _))
      have H3 := Lib.hid (And.intro f1 (And.intro (hp.keep hbb) (And.intro (hst.trans (Stp.of_below gp hbb)) (And.intro (kL.keep hbb) (own_keepb' (show World.ownsRow w2 w.heap.size 67 2 (.slice G6 L.length c6) L.length (resCells L) from hown2) hbb)))))
      clear f1 hbb n2 hp hst kL hown2
      go_upto_region 4 with (first
        | (refine wpList_store_rowTo rfl 61 (.tmp 7) (.tmp 16) rfl rfl w2.heap.size (accC k c o v) rfl rfl 61 accZ n1 (by kernel_rfl) rfl (by simp [Value.oneCell']) ?_)
        | (refine wpList_store_rowTo rfl 63 (.tmp 8) (.tmp 17) rfl rfl (w2.heap.size + 1) outZ rfl rfl 63 outZ n3 (by kernel_rfl) rfl (by simp [Value.oneCell']) ?_))
      clear n1 n3
      obtain ⟨f1, hp, hst, kL, hown⟩ := H3.out
      clear H3
      show Code.wp Try.prog _ _ _ ((((w2.alloc (.cells accZ 61)).alloc (.cells outZ 63)).setRow w2.heap.size (accC k c o v)).setRow (w2.heap.size + 1) outZ)
      generalize (((w2.alloc (.cells accZ 61)).alloc (.cells outZ 63)).setRow w2.heap.size (accC k c o v)).setRow (w2.heap.size + 1) outZ = w3 at *
      have y0 := f1.cell 0
      have y1 := f1.cell 1
      have y2 := f1.cell 2
      have y3 := f1.cell 3
      have xl := f1.lt
      simp at y0 y1 y2 y3
      go_wp2_with fail
      cases hx : log[i]? with
      | none =>
        (with_reducible refine (edo_asks k c o v hp (eq_none hx hi)).mono ?_)
        rintro e wq ⟨rfl, hb⟩
        exact ⟨rfl, Or.inl ⟨k, c, o, v, L, rfl, hst.trans (Stp.of_below gp hb), HQ2.out.1.trans (ef_none hx), HQ2.out.2.2⟩⟩
      | some x =>
        obtain ⟨x1, x2⟩ := x
        (with_reducible refine (edo_told k c o v hp hx).mono ?_)
        rintro e w4 ⟨rfl, hp2, hs2⟩
        have hwl : w.heap.size ≤ w4.heap.size := Nat.le_trans hst.size hs2.size
        replace hst := hst.trans hs2
        replace kL := hs2.keep kL (by omega)
        have hown4 := own_keepS (show World.ownsRow w3 w.heap.size 67 2 (.slice G6 L.length c6) L.length (resCells L) from hown) hs2 (by rw [HZ.out]; exact zg)
        have hq3 : q = ef p.l a gone (giveQ p.l held stays g rest (L ++ [(x1, x2)])) (log.drop (i + 1)) := by
          rw [HQ2.out.1, ef_some hx]
          rfl
        have HQ3 := Lib.hid (And.intro hq3 HQ2.out.2.1)
        have hi1 := lt_some hx
        clear hx hq3 HQ2 hp hs2 hown f1 y0 y1 y2 y3 xl
        obtain ⟨t0, hi0, hz0, hz1, hz2⟩ := info_parts res_info
        have kr := Bk.made w4 67 #[.int .i64 x1, .bool x2]
        have hbr := below_al (Below.refl w4.heap.size w4) (.cells #[.int .i64 x1, .bool x2] 67)
        have hown5 := own_keepb' hown4 hbr
        have HA := Lib.hid (And.intro (hp2.keep hbr) (And.intro (hst.trans (Stp.of_below gp hbr)) (And.intro (kL.keep hbr) hwl)))
        have hwl2 : w.heap.size ≤ (w4.alloc (.cells #[.int .i64 x1, .bool x2] 67)).heap.size := Nat.le_trans hwl hbr.size
        clear hp2 hst kL hown4
        go_wp2_with (at_builtin; go_must (refine wpList_append_own_at _ rfl (.tmp 20) (.tmp 24) _ rfl w.heap.size 67 t0 _ 2 16 Try.underlying47 hi0 hz0 hz1 hz2 rfl (by omega) (.slice G6 L.length c6) L.length (resCells L) rfl hown5 ⟨w4.heap.size, 0, none⟩ 1 1 [.int .i64 x1, .bool x2] rfl rfl (fun j u hu => by rw [Go.WideShapes.add_plain, Nat.zero_add, kr.cell j]; simpa using hu) (by simp [Value.oneCell']) (by simp only [maxLen]; omega) (by omega) (by simp; omega) ?_; intro v9 w7 hrow7 hgrow7 _ _))
        obtain ⟨hp2, hst, kL, hwl⟩ := HA.out
        have hgk := keptT_grown hown5 hgrow7
        have hbg : Below w.heap.size (w4.alloc (.cells #[.int .i64 x1, .bool x2] 67)) w7 := below_grow (Below.refl w.heap.size _) hown5 hgrow7 (Nat.le_trans hwl hbr.size) (Nat.le_refl _)
        have hp7 : PeSt w7 B gp p A gv (i + 1) log := ⟨hp2.kp.keptT hgk (by decide), hp2.sl.below (below_less hbg (by have := hp2.bp; have := HZ.out; omega)), hp2.bp, hp2.le⟩
        have hm1 : log.length + 1 - madeE gp w7 < log.length + 1 - madeE gp wr := by rw [madeE_eq hp7.kp, HQ3.out.2]; omega
        exact ⟨⟨i + 1, L ++ [(x1, x2)], hi1, by simp; omega, hp7, stp_own hst hbg, kL.keptT hgk (by decide), by unfold OwnRes; rw [resCells_snoc, List.length_append]; exact hrow7, HQ3.out.1⟩, hm1⟩
end Go.Proofs.Ytgjdjgainjedhaa
namespace Go.Proofs.Ytgjdjgainjedhaa
open Go.RowKit
set_option linter.unusedVariables false
attribute [local go_sem ↓] Go.wp_at_zero Go.wp_at_succ

/-- Where a sifter is that has read these reservations. -/
def rsQ (l : Ly) (g : Gone) (H : List Int) : EPh := if (H.length : Int) < 3 * l.c.seats then .rs g H else siftN H [] g
theorem rs_add (l : Ly) (a : Int) (gone g : Gone) (H : List Int) (r : Int × Bool) : EPh.add l a gone r (.rs g H) = rsQ l g (H ++ [r.1]) := rfl
def padH (H : List Int) : List Int := H ++ List.replicate (24 - H.length) 0
theorem padH_len {H : List Int} (h : H.length ≤ 24) : (padH H).length = 24 := by unfold padH; simp; omega
theorem padH_nil : rowV (padH []) = rowV (List.replicate 24 0) := rfl
theorem padH_set {H : List Int} (h : H.length < 24) (x : Int) : (rowV (padH H)).setIfInBounds H.length (.int .i64 x) = rowV (padH (H ++ [x])) := by
  unfold rowV padH
  rw [List.setIfInBounds_toArray]
  congr 1
  apply List.ext_getElem?
  intro j
  rw [show 24 - H.length = (24 - (H ++ [x]).length) + 1 by simp; omega, List.replicate_succ]
  simp only [List.map_append, List.map_cons, List.map_replicate, List.append_assoc, List.cons_append, List.nil_append]
  rw [List.set_append]
  simp
theorem heldB_pad (H : List Int) (born ret : Int) : heldB (padH H) born ret = heldB H born ret := heldB_zeros H born ret _
def SiftPost (B gp : Nat) (p : Pg) (A : Option Addr) (log : Log) (op : Opr) (gone : Gone) (q : EPh) (w : World) (e : Ending) (w' : World) : Prop :=
  (∃ k c o v, e = .panicked [{ v := askE k c o v, recovered := false }] ∧ Stp gp w w' ∧ q.ans p.l p.me op gone = .ask k c o v) ∨
  (∃ stays G n c i, e = .returned (.tuple #[]) ∧ Stp gp w w' ∧ n = stays.length ∧ NilOk G n c ∧ OwnGone w' w.heap.size (.slice G n c) stays ∧ PeSt w' B gp p A (.slice G n c) i log ∧ q = .rz stays)
/-- The reservations are being read. -/
structure Sf1 (B gp bH : Nat) (p : Pg) (A : Option Addr) (gv : Value) (log : Log) (op : Opr) (gone g : Gone) (q : EPh) (w : World) (k : Nat) (H : List Int) (wr : World) : Prop where
  hk : k ≤ log.length
  hp : PeSt wr B gp p A gv k log
  st : Stp gp w wr
  kH : Bk wr bH 123 (rowV (padH H))
  qq : q = ef p.l op.a gone (rsQ p.l g H) (log.drop k)
theorem Sf1.keep {B gp bH : Nat} {p : Pg} {A : Option Addr} {gv : Value} {log : Log} {op : Opr} {gone g : Gone} {q : EPh} {w : World} {k : Nat} {H : List Int} {wr w' : World} (h : Sf1 B gp bH p A gv log op gone g q w k H wr) (hb : Below wr.heap.size wr w') : Sf1 B gp bH p A gv log op gone g q w k H w' :=
  ⟨h.hk, h.hp.keep hb, h.st.trans (Stp.of_below gp hb), h.kH.keep hb, h.qq⟩
def S1Rel (B gp bH : Nat) (p : Pg) (A : Option Addr) (gv : Value) (log : Log) (op : Opr) (gone g : Gone) (q : EPh) (w : World) (v15 : Value) (wr : World) : Prop :=
  ∃ (i k : Nat) (H : List Int), v15 = .int .i64 (i : Nat) ∧ (i : Int) ≤ p.l.c.seats ∧ H.length = 3 * i ∧ Sf1 B gp bH p A gv log op gone g q w k H wr
def S2Rel (B gp bH : Nat) (p : Pg) (A : Option Addr) (gv : Value) (log : Log) (op : Opr) (gone g : Gone) (q : EPh) (w : World) (i : Nat) (v18 : Value) (wr : World) : Prop :=
  ∃ (j k : Nat) (H : List Int), v18 = .int .i64 (j : Nat) ∧ j ≤ 3 ∧ H.length = 3 * i + j ∧ Sf1 B gp bH p A gv log op gone g q w k H wr
/-- What was retired is being looked at. -/
structure Sf3 (B gp bH : Nat) (p : Pg) (A : Option Addr) (gv : Value) (log : Log) (H : List Int) (w : World) (k : Nat) (stays : Gone) (v5 : Value) (wr : World) : Prop where
  hk : k ≤ log.length
  hp : PeSt wr B gp p A gv k log
  st : Stp gp w wr
  kH : Bk wr bH 123 (rowV (padH H))
  own : OwnGone wr w.heap.size v5 stays
theorem Sf3.keep {B gp bH : Nat} {p : Pg} {A : Option Addr} {gv v5 : Value} {log : Log} {H : List Int} {w : World} {k : Nat} {stays : Gone} {wr w' : World} (h : Sf3 B gp bH p A gv log H w k stays v5 wr) (hb : Below wr.heap.size wr w') : Sf3 B gp bH p A gv log H w k stays v5 w' :=
  ⟨h.hk, h.hp.keep hb, h.st.trans (Stp.of_below gp hb), h.kH.keep hb, own_keepb' (show World.ownsRow wr w.heap.size 51 2 v5 stays.length (pairCells stays) from h.own) hb⟩
theorem Sf3.told {B gp bH : Nat} {p : Pg} {A : Option Addr} {gv v5 : Value} {log : Log} {H : List Int} {w : World} {k : Nat} {stays : Gone} {wr w' : World} {k' : Nat} (h : Sf3 B gp bH p A gv log H w k stays v5 wr) (hk : k' ≤ log.length) (hp : PeSt w' B gp p A gv k' log) (hs : Stp gp wr w') (h1 : gp < w.heap.size) (h2 : bH ≠ gp) : Sf3 B gp bH p A gv log H w k' stays v5 w' :=
  ⟨hk, hp, h.st.trans hs, hs.keep h.kH h2, own_keepS (show World.ownsRow wr w.heap.size 51 2 v5 stays.length (pairCells stays) from h.own) hs h1⟩
def S3Rel (B gp bH : Nat) (p : Pg) (A : Option Addr) (gv : Value) (log : Log) (op : Opr) (gone g : Gone) (H : List Int) (q : EPh) (w : World) (v5 v41 : Value) (wr : World) : Prop :=
  ∃ (x k : Nat) (stays : Gone), v41 = .int .i64 (x : Nat) ∧ x ≤ g.length ∧ stays.length ≤ x ∧ Sf3 B gp bH p A gv log H w k stays v5 wr ∧ q = ef p.l op.a gone (siftN H stays (g.drop x)) (log.drop k)
theorem own_nilOk {w : World} {base n sz c : Nat} {G : Option Addr} {e : TypeId} {xs : List Value} (h : w.ownsRow base e sz (.slice G n c) n xs) : NilOk G n c := by
  rintro rfl
  rcases h.2 with ⟨h1, h2⟩ | ⟨g, cap, cur, h1, _⟩
  · injection h1 with _ h1 h3
    exact ⟨h1, h3⟩
  · cases h1
set_option maxRecDepth 100000 in
set_option maxHeartbeats 8000000 in
theorem sift_any {w : World} {B gp : Nat} {p : Pg} {A G : Option Addr} {n c : Nat} {log : Log} {op : Opr} {gone g : Gone} {i0 : Nat} (h : PeSt w B gp p A (.slice G n c) i0 log) (hn : n = g.length) (hgm : g.length ≤ 1000) (hg : GoneAt w [gp] G g) (hi : i0 ≤ log.length) (f : LyFull p.l) (hs : 1 ≤ p.l.c.seats ∧ p.l.c.seats ≤ 8) (hgb : ∀ x ∈ g, x.1 ≤ 1000000) :
    Calls Try.prog 52 #[ptr gp] w (SiftPost B gp p A log op gone (ef p.l op.a gone (.rs g []) (log.drop i0)) w) := by
  have HF := Lib.hid f
  have HG := Lib.hid (And.intro hg hgb)
  have zg := h.kp.lt
  have hle := h.le
  obtain ⟨q, hq⟩ : ∃ q, ef p.l op.a gone (.rs g []) (log.drop i0) = q := ⟨_, rfl⟩
  rw [hq]
  have hal := below_al (Below.refl w.heap.size w) (.cells (rowV (padH [])) 123)
  have hq0 : q = ef p.l op.a gone (rsQ p.l g []) (log.drop i0) := by rw [← hq]; unfold rsQ; rw [if_pos (by simp; omega)]
  have HR := Lib.hid (show Sf1 B gp w.heap.size p A (.slice G n c) log op gone g q w i0 [] (w.alloc (.cells (rowV (padH [])) 123)) from ⟨hi, h.keep hal, (Stp.refl gp w).alloc _, Bk.made w 123 (rowV (padH [])), hq0⟩)
  obtain ⟨sv, hsv⟩ : ∃ s : Nat, p.l.c.seats = s := ⟨p.l.c.seats.toNat, by omega⟩
  have HN := Lib.hid (And.intro hn hsv)
  rw [hsv] at hs
  clear h f hg hgb hi hal hq hq0 hn hsv
  go_enter Try.func52, Try.ntmps52
  go_upto_region 1 with fail
  show Code.wp Try.prog _ _ _ (w.alloc (.cells (rowV (padH [])) 123))
  generalize w.alloc (.cells (rowV (padH [])) 123) = w1 at *
  obtain ⟨bH, hbH⟩ : ∃ g, w.heap.size = g := ⟨_, rfl⟩
  rw [hbH] at HR zg ⊢
  have HZ := Lib.hid hbH
  clear hbH
  have c0 := HR.out.hp.kp.cell 0
  have lg := HR.out.hp.kp.lt
  simp at c0
  rw [HN.out.2] at c0
  go_wp2_with fail
  clear c0 lg
  go_loopw [15] (fun v15 wr => S1Rel B gp bH p A (.slice G n c) log op gone g q w v15 wr) (fun v15 _ => sv - (intOf v15).toNat)
  case atStart => exact ⟨0, i0, [], rfl, by rw [HN.out.2]; omega, rfl, HR.out⟩
  case round =>
    clear HR
    obtain ⟨i, k, H, rfl, his, hHl, hat⟩ := hrel
    rw [HN.out.2] at his
    by_cases hlt : i < sv
    · have hd : decide ((i : Int) < sv) = true := by simp; omega
      have hd2 : (i : Int) < sv := by omega
      have HAT := Lib.hid (And.intro hHl hat)
      clear hHl hat
      go_wp2_with fail
      go_loopw [18] (fun v18 wr' => S2Rel B gp bH p A (.slice G n c) log op gone g q w i v18 wr') (fun v18 _ => 3 - (intOf v18).toNat)
      case atStart => exact ⟨0, k, H, rfl, by omega, HAT.out.1, HAT.out.2⟩
      case round =>
        clear HAT
        obtain ⟨j, k, H, rfl, hj3, hHl, hat⟩ := hrel
        by_cases hjt : j < 3
        · have hd3 : (j : Int) < 3 := by omega
          have hi8 : (i : Int) < 8 := by omega
          go_upto_region 7 with fail
          refine wp_region_E (S := fun w' => ∃ i', Bk w' gp 94 (progE p A (.slice G n c) log.length i')) (E := fun i => i == 13) (by kernel_rfl) ?_
          replace hat := hat.keep (below_drew' (Below.refl _ _))
          generalize World.drew _ = w5 at *
          refine wpAnyE_take (i := 0) (oi := _) (v := .int .i64 (i : Nat)) rfl (by kernel_rfl) (by kernel_rfl) (by kernel_rfl) (by kernel_rfl) (fun _ _ _ h => h) (Or.inl ⟨by rfl, ?_⟩) ⟨_, hat.hp.kp⟩ ?_
          · intro w' hSw
            (try simp only [List.getElem_toArray, List.getElem_cons_zero])
            go_simp
          (try simp only [List.getElem_toArray, List.getElem_cons_zero, Act.put, List.setIfInBounds_toArray, List.set_cons_zero, List.set_cons_succ])
          refine wpAnyE_take (i := 1) (oi := _) (v := .int .i64 (j : Nat)) rfl (by kernel_rfl) (by kernel_rfl) (by kernel_rfl) (by kernel_rfl) (fun _ _ _ h => h) (Or.inl ⟨by rfl, ?_⟩) ⟨_, hat.hp.kp⟩ ?_
          · intro w' hSw
            (try simp only [List.getElem_toArray, List.getElem_cons_succ, List.getElem_cons_zero])
            go_simp
          (try simp only [List.getElem_toArray, List.getElem_cons_succ, List.getElem_cons_zero, Act.put, List.setIfInBounds_toArray, List.set_cons_zero, List.set_cons_succ])
          refine wpAnyE_take (i := 2) (oi := _) (v := .pointer (some ⟨gp, 0, none⟩)) rfl (by kernel_rfl) (by kernel_rfl) (by kernel_rfl) (by kernel_rfl) (fun _ _ _ h => h) (Or.inl ⟨by rfl, ?_⟩) ⟨_, hat.hp.kp⟩ ?_
          · intro w' hSw
            (try simp only [List.getElem_toArray, List.getElem_cons_succ, List.getElem_cons_zero])
            go_simp
          (try simp only [List.getElem_toArray, List.getElem_cons_succ, List.getElem_cons_zero, Act.put, List.setIfInBounds_toArray, List.set_cons_zero, List.set_cons_succ])
          refine wpAnyE_take (i := 3) (oi := _) (v := .pointer (some ⟨gp, 0, none⟩)) rfl (by kernel_rfl) (by kernel_rfl) (by kernel_rfl) (by kernel_rfl) (fun _ _ _ h => h) (Or.inl ⟨by rfl, ?_⟩) ⟨_, hat.hp.kp⟩ ?_
          · intro w' hSw
            (try simp only [List.getElem_toArray, List.getElem_cons_succ, List.getElem_cons_zero])
            go_simp
          (try simp only [List.getElem_toArray, List.getElem_cons_succ, List.getElem_cons_zero, Act.put, List.setIfInBounds_toArray, List.set_cons_zero, List.set_cons_succ])
          refine wpAnyE_take (i := 4) (oi := _) (v := .pointer (some ⟨gp, 0, none⟩)) rfl (by kernel_rfl) (by kernel_rfl) (by kernel_rfl) (by kernel_rfl) (fun _ _ _ h => h) (Or.inl ⟨by rfl, ?_⟩) ⟨_, hat.hp.kp⟩ ?_
          · intro w' hSw
            (try simp only [List.getElem_toArray, List.getElem_cons_succ, List.getElem_cons_zero])
            go_simp
          (try simp only [List.getElem_toArray, List.getElem_cons_succ, List.getElem_cons_zero, Act.put, List.setIfInBounds_toArray, List.set_cons_zero, List.set_cons_succ])
          refine wpAnyE_take (i := 5) (oi := _) (v := .pointer (some ⟨gp, 0, none⟩)) rfl (by kernel_rfl) (by kernel_rfl) (by kernel_rfl) (by kernel_rfl) (fun _ _ _ h => h) (Or.inl ⟨by rfl, ?_⟩) ⟨_, hat.hp.kp⟩ ?_
          · intro w' hSw
            (try simp only [List.getElem_toArray, List.getElem_cons_succ, List.getElem_cons_zero])
            go_simp
          (try simp only [List.getElem_toArray, List.getElem_cons_succ, List.getElem_cons_zero, Act.put, List.setIfInBounds_toArray, List.set_cons_zero, List.set_cons_succ])
          refine wpAnyE_take (i := 6) (oi := _) (v := .agg (lyC p.l)) rfl (by kernel_rfl) (by kernel_rfl) (by kernel_rfl) (by kernel_rfl) (fun _ _ _ h => h) (Or.inl ⟨by rfl, ?_⟩) ⟨_, hat.hp.kp⟩ ?_
          · intro w' hSw
            obtain ⟨i9, k9⟩ := hSw
            (try simp only [List.getElem_toArray, List.getElem_cons_succ, List.getElem_cons_zero])
            simp only [execOp, Instr.loadAt, Instr.sureAddr, Sem.run_bind, Sem.run_pure]
            rw [show (Act.eval _ (Operand.tmp 26)) = Value.pointer (some ⟨gp, 0, none⟩) from rfl]
            simp only [Sem.run_pure, Result.andThen_ok, run_loadVar_sub w' gp 0 40 (lyC p.l) _ (prog_subE k9) Try.underlying40 rfl (by kernel_rfl)]
          (try simp only [List.getElem_toArray, List.getElem_cons_succ, List.getElem_cons_zero, Act.put, List.setIfInBounds_toArray, List.set_cons_zero, List.set_cons_succ])
          refine wpAnyE_take (i := 7) (oi := _) (v := .int .i64 (i : Nat)) rfl (by kernel_rfl) (by kernel_rfl) (by kernel_rfl) (by kernel_rfl) (fun _ _ _ h => h) (Or.inl ⟨by rfl, ?_⟩) ⟨_, hat.hp.kp⟩ ?_
          · intro w' hSw
            (try simp only [List.getElem_toArray, List.getElem_cons_succ, List.getElem_cons_zero])
            go_simp
          (try simp only [List.getElem_toArray, List.getElem_cons_succ, List.getElem_cons_zero, Act.put, List.setIfInBounds_toArray, List.set_cons_zero, List.set_cons_succ])
          refine wpAnyE_take (i := 8) (oi := _) (v := .int .i64 (j : Nat)) rfl (by kernel_rfl) (by kernel_rfl) (by kernel_rfl) (by kernel_rfl) (fun _ _ _ h => h) (Or.inl ⟨by rfl, ?_⟩) ⟨_, hat.hp.kp⟩ ?_
          · intro w' hSw
            (try simp only [List.getElem_toArray, List.getElem_cons_succ, List.getElem_cons_zero])
            go_simp
          (try simp only [List.getElem_toArray, List.getElem_cons_succ, List.getElem_cons_zero, Act.put, List.setIfInBounds_toArray, List.set_cons_zero, List.set_cons_succ])
          refine wpAnyE_takeW (i := 11) (oi := _) (v := .pointer (some ⟨bH, i * 3, none⟩)) rfl (by kernel_rfl) (by kernel_rfl) (by kernel_rfl) (fun _ _ _ h => h) (Or.inl ⟨by rfl, ?_⟩) ?_
          · intro w' hSw
            clear hSw
            (try simp only [List.getElem_toArray, List.getElem_cons_succ, List.getElem_cons_zero])
            go_simp
          (try simp only [List.getElem_toArray, List.getElem_cons_succ, List.getElem_cons_zero, Act.put, List.setIfInBounds_toArray, List.set_cons_zero, List.set_cons_succ])
          refine wpAnyE_one (i := 9) (o := _) (by kernel_rfl) rfl (fun K hK => ?_)
          (try simp only [List.getElem_toArray, List.getElem_cons_succ, List.getElem_cons_zero])
          go_simp
          (with_reducible refine (resv_any p.l (i : Nat) (j : Nat) _ HF.out).mono ?_)
          rintro e w6 ⟨rfl, hb⟩
          replace hat := hat.keep hb
          clear hb
          refine hK.out _ _ (fun _ => ⟨_, hat.hp.kp⟩) ?_
          clear hK K
          (try simp only [List.getElem_toArray, List.getElem_cons_succ, List.getElem_cons_zero, Act.put, List.setIfInBounds_toArray, List.set_cons_zero, List.set_cons_succ])
          refine wpAnyE_one (i := 10) (o := _) (by kernel_rfl) rfl (fun K hK => ?_)
          (try simp only [List.getElem_toArray, List.getElem_cons_succ, List.getElem_cons_zero])
          go_simp
          have hrs : rsQ p.l g H = .rs g H := by unfold rsQ; rw [if_pos (by rw [hHl, HN.out.2]; omega)]
          cases hz : log[k]? with
          | none =>
            (with_reducible refine (eload_asks (resvAt p.l (i : Nat) (j : Nat)) hat.hp (eq_none hz hat.hk)).mono ?_)
            rintro e wq ⟨rfl, hb⟩
            refine ⟨rfl, Or.inl ⟨1, resvAt p.l (i : Nat) (j : Nat), 0, 0, rfl, hat.st.trans (Stp.of_below gp hb), ?_⟩⟩
            rw [hat.qq, ef_none hz, hrs]
            show AnsE.ask 1 (resvAt p.l ((H.length / 3 : Nat) : Int) ((H.length % 3 : Nat) : Int)) 0 0 = _
            rw [hHl, show (3 * i + j) / 3 = i by omega, show (3 * i + j) % 3 = j by omega]
          | some z =>
            obtain ⟨z1, z2⟩ := z
            (with_reducible refine (eload_told (resvAt p.l (i : Nat) (j : Nat)) hat.hp hz).mono ?_)
            rintro e w7 ⟨rfl, hp2, hs2⟩
            have hq2 : q = ef p.l op.a gone (rsQ p.l g (H ++ [z1])) (log.drop (k + 1)) := by rw [hat.qq, ef_some hz, hrs, rs_add]
            have hk1 := lt_some hz
            have kH := hs2.keep hat.kH (by omega)
            have hst := hat.st.trans hs2
            clear hz hs2 hrs hat
            refine hK.out _ _ (fun _ => ⟨_, hp2.kp⟩) ?_
            clear hK K
            (try simp only [List.getElem_toArray, List.getElem_cons_succ, List.getElem_cons_zero, Act.put, List.setIfInBounds_toArray, List.set_cons_zero, List.set_cons_succ])
            have qH := kH.cell (i * 3 + j)
            have fH := kH.free (i * 3 + j)
            have lH := kH.lt
            have hHl2 : i * 3 + j = H.length := by omega
            obtain ⟨ov, hov⟩ : ∃ v, (rowV (padH H))[i * 3 + j]? = some v := by
              have h24 : (rowV (padH H)).size = 24 := by unfold rowV; simp [padH_len (show H.length ≤ 24 by omega)]
              exact ⟨_, Array.getElem?_eq_getElem (by omega)⟩
            rw [hov] at qH
            have HH2 := Lib.hid hHl2
            clear hHl2
            refine wpAnyE_takeW (i := 12) (oi := _) (v := .pointer (some ⟨bH, i * 3 + j, none⟩)) rfl (by kernel_rfl) (by kernel_rfl) (by kernel_rfl) (fun _ _ _ h => h) (Or.inl ⟨by rfl, ?_⟩) ?_
            · intro w' hSw
              clear hSw
              (try simp only [List.getElem_toArray, List.getElem_cons_succ, List.getElem_cons_zero])
              go_simp
            (try simp only [List.getElem_toArray, List.getElem_cons_succ, List.getElem_cons_zero, Act.put, List.setIfInBounds_toArray, List.set_cons_zero, List.set_cons_succ])
            refine wpAnyE_one (i := 13) (o := _) (by kernel_rfl) rfl (fun K hK => ?_)
            (try simp only [List.getElem_toArray, List.getElem_cons_succ, List.getElem_cons_zero])
            go_simp
            clear qH fH hov
            have kH2 := kH.stored (i * 3 + j) (.int .i64 z1)
            rw [HH2.out, padH_set (by omega), ← HH2.out] at kH2
            have hp3 : PeSt (w7.setCell ⟨bH, i * 3 + j, none⟩ (.int .i64 z1)) B gp p A (.slice G n c) (k + 1) log := ⟨hp2.kp.other (p := ⟨bH, i * 3 + j, none⟩) (by dsimp only; omega) _, hp2.sl.below ((Below.refl B w7).setCell (p := ⟨bH, i * 3 + j, none⟩) (by have := hp2.bp; dsimp only; omega) _), hp2.bp, hp2.le⟩
            have hst3 : Stp gp w (w7.setCell ⟨bH, i * 3 + j, none⟩ (.int .i64 z1)) := stp_own hst ((Below.refl w.heap.size w7).setCell (p := ⟨bH, i * 3 + j, none⟩) (by dsimp only; rw [HZ.out]; exact Nat.le_refl _) _)
            have HR1 := Lib.hid (show S2Rel B gp bH p A (.slice G n c) log op gone g q w i (.int .i64 ((j + 1 : Nat) : Int)) (w7.setCell ⟨bH, i * 3 + j, none⟩ (.int .i64 z1)) from ⟨j + 1, k + 1, H ++ [z1], rfl, by omega, by simp; omega, hk1, hp3, hst3, kH2, hq2⟩)
            clear kH2 hp3 hst3 hq2 kH lH hp2 hst
            refine hK.out _ _ (fun h => absurd h (by decide)) ?_
            clear hK K
            (try simp only [List.getElem_toArray, List.getElem_cons_succ, List.getElem_cons_zero, Act.put, List.setIfInBounds_toArray, List.set_cons_zero, List.set_cons_succ])
            refine wpAnyE_done (by kernel_rfl) ?_ _
            go_wp2_with fail
            go_roundw
            case rel => exact HR1.out
            case measure => simp [intOf]; omega
        · have hj : j = 3 := by omega
          subst hj
          have hdd : decide (((3 : Nat) : Int) < 3) = false := by decide
          have HR1 := Lib.hid (show S1Rel B gp bH p A (.slice G n c) log op gone g q w (.int .i64 ((i + 1 : Nat) : Int)) _ from ⟨i + 1, k, H, rfl, by rw [HN.out.2]; omega, by omega, hat⟩)
          clear hat
          go_wp2_with fail
          go_roundw
          case rel => exact HR1.out
          case measure => simp [intOf]; omega
    · have hi : i = sv := by omega
      subst hi
      have hdd : decide ((i : Int) < (i : Int)) = false := by simp
      have hn := HN.out.1
      subst hn
      have hq2 : q = ef p.l op.a gone (siftN H [] (g.drop 0)) (log.drop k) := by
        rw [hat.qq]
        unfold rsQ
        rw [if_neg (by rw [hHl, HN.out.2]; omega)]
        rfl
      have HR2 := Lib.hid (show S3Rel B gp bH p A (.slice G g.length c) log op gone g H q w (.slice none 0 0) (.int .i64 ((0 : Nat) : Int)) wr from ⟨0, k, [], rfl, Nat.zero_le _, Nat.le_refl _, ⟨hat.hk, hat.hp, hat.st, hat.kH, World.ownsRow_nil _ _ _ _⟩, hq2⟩)
      have c26 := hat.hp.kp.cell 26
      have lg := hat.hp.kp.lt
      simp at c26
      clear hat hq2
      go_wp2_with fail
      clear c26 lg
      go_loopw [5, 41] (fun v5 v41 wr => S3Rel B gp bH p A (.slice G g.length c) log op gone g H q w v5 v41 wr) (fun _ v41 _ => g.length - (intOf v41).toNat)
      case atStart => exact HR2.out
      case round =>
        clear HR2
        obtain ⟨x, k, stays, rfl, hx, hsx, hat, hqq⟩ := hrel
        obtain ⟨G5, c5, rfl⟩ := own_slice hat.own
        by_cases hxt : x < g.length
        · have hx2 : (x : Int) < g.length := by omega
          obtain ⟨y, hy⟩ : ∃ y, g[x]? = some y := ⟨_, List.getElem?_eq_getElem hxt⟩
          obtain ⟨bG, oG, hGe, hGl, hGn, hGc⟩ := HG.out.1.stp hat.st (by simp) (by omega)
          obtain ⟨d0, d1⟩ := hGc x y hy
          have hyb := HG.out.2 y (List.mem_of_getElem? hy)
          have hq2 : q = ef p.l op.a gone (.rb H stays y (g.drop (x + 1))) (log.drop k) := by rw [hqq, drop_at hy]; rfl
          obtain ⟨y1, y2⟩ := y
          dsimp only at d0 d1 hyb
          subst hGe
          have HQ := Lib.hid hq2
          clear hqq hq2 hGc hGn hy
          have hb7g : w.heap.size ≤ wr.heap.size := hat.st.size
          have hbG : bG < wr.heap.size := hGl
          go_upto_region 14 with fail
          have kY := Bk.made wr 51 #[.int .i64 y1, .int .i64 y2]
          replace hat := hat.keep (below_al (Below.refl _ _) (.cells #[.int .i64 y1, .int .i64 y2] 51))
          clear d0 d1 hGl
          generalize wr.alloc (.cells #[.int .i64 y1, .int .i64 y2] 51) = w2 at *
          generalize wr.heap.size = b7 at *
          refine wp_region_E (S := fun w' => (∃ i', Bk w' gp 94 (progE p A (.slice (some ⟨bG, oG, none⟩) g.length c) log.length i')) ∧ Bk w' b7 51 #[.int .i64 y1, .int .i64 y2]) (E := fun _ => false) (by kernel_rfl) ?_
          replace hat := hat.keep (below_drew' (Below.refl _ _))
          replace kY := kY.drew
          generalize w2.drew = w3 at *
          refine wpAnyE_take (i := 0) (oi := _) (v := .pointer (some ⟨gp, 0, none⟩)) rfl (by kernel_rfl) (by kernel_rfl) (by kernel_rfl) (by kernel_rfl) (fun _ _ _ h => h) (Or.inl ⟨by rfl, ?_⟩) ⟨⟨_, hat.hp.kp⟩, kY⟩ ?_
          · intro w' hSw
            (try simp only [List.getElem_toArray, List.getElem_cons_zero])
            go_simp
          (try simp only [List.getElem_toArray, List.getElem_cons_zero, Act.put, List.setIfInBounds_toArray, List.set_cons_zero, List.set_cons_succ])
          refine wpAnyE_take (i := 1) (oi := _) (v := .pointer (some ⟨gp, 0, none⟩)) rfl (by kernel_rfl) (by kernel_rfl) (by kernel_rfl) (by kernel_rfl) (fun _ _ _ h => h) (Or.inl ⟨by rfl, ?_⟩) ⟨⟨_, hat.hp.kp⟩, kY⟩ ?_
          · intro w' hSw
            (try simp only [List.getElem_toArray, List.getElem_cons_succ, List.getElem_cons_zero])
            go_simp
          (try simp only [List.getElem_toArray, List.getElem_cons_succ, List.getElem_cons_zero, Act.put, List.setIfInBounds_toArray, List.set_cons_zero, List.set_cons_succ])
          refine wpAnyE_take (i := 2) (oi := _) (v := .pointer (some ⟨gp, 0, none⟩)) rfl (by kernel_rfl) (by kernel_rfl) (by kernel_rfl) (by kernel_rfl) (fun _ _ _ h => h) (Or.inl ⟨by rfl, ?_⟩) ⟨⟨_, hat.hp.kp⟩, kY⟩ ?_
          · intro w' hSw
            (try simp only [List.getElem_toArray, List.getElem_cons_succ, List.getElem_cons_zero])
            go_simp
          (try simp only [List.getElem_toArray, List.getElem_cons_succ, List.getElem_cons_zero, Act.put, List.setIfInBounds_toArray, List.set_cons_zero, List.set_cons_succ])
          refine wpAnyE_take (i := 3) (oi := _) (v := .pointer (some ⟨gp, 0, none⟩)) rfl (by kernel_rfl) (by kernel_rfl) (by kernel_rfl) (by kernel_rfl) (fun _ _ _ h => h) (Or.inl ⟨by rfl, ?_⟩) ⟨⟨_, hat.hp.kp⟩, kY⟩ ?_
          · intro w' hSw
            (try simp only [List.getElem_toArray, List.getElem_cons_succ, List.getElem_cons_zero])
            go_simp
          (try simp only [List.getElem_toArray, List.getElem_cons_succ, List.getElem_cons_zero, Act.put, List.setIfInBounds_toArray, List.set_cons_zero, List.set_cons_succ])
          refine wpAnyE_take (i := 4) (oi := _) (v := .agg (lyC p.l)) rfl (by kernel_rfl) (by kernel_rfl) (by kernel_rfl) (by kernel_rfl) (fun _ _ _ h => h) (Or.inl ⟨by rfl, ?_⟩) ⟨⟨_, hat.hp.kp⟩, kY⟩ ?_
          · intro w' hSw
            obtain ⟨i9, k9⟩ := hSw.1
            (try simp only [List.getElem_toArray, List.getElem_cons_succ, List.getElem_cons_zero])
            simp only [execOp, Instr.loadAt, Instr.sureAddr, Sem.run_bind, Sem.run_pure]
            rw [show (Act.eval _ (Operand.tmp 48)) = Value.pointer (some ⟨gp, 0, none⟩) from rfl]
            simp only [Sem.run_pure, Result.andThen_ok, run_loadVar_sub w' gp 0 40 (lyC p.l) _ (prog_subE k9) Try.underlying40 rfl (by kernel_rfl)]
          (try simp only [List.getElem_toArray, List.getElem_cons_succ, List.getElem_cons_zero, Act.put, List.setIfInBounds_toArray, List.set_cons_zero, List.set_cons_succ])
          refine wpAnyE_take (i := 5) (oi := _) (v := .pointer (some ⟨b7, 0, none⟩)) rfl (by kernel_rfl) (by kernel_rfl) (by kernel_rfl) (by kernel_rfl) (fun _ _ _ h => h) (Or.inl ⟨by rfl, ?_⟩) ⟨⟨_, hat.hp.kp⟩, kY⟩ ?_
          · intro w' hSw
            (try simp only [List.getElem_toArray, List.getElem_cons_succ, List.getElem_cons_zero])
            go_simp
          (try simp only [List.getElem_toArray, List.getElem_cons_succ, List.getElem_cons_zero, Act.put, List.setIfInBounds_toArray, List.set_cons_zero, List.set_cons_succ])
          refine wpAnyE_take (i := 6) (oi := _) (v := .int .i64 y1) rfl (by kernel_rfl) (by kernel_rfl) (by kernel_rfl) (by kernel_rfl) (fun _ _ _ h => h) (Or.inl ⟨by rfl, ?_⟩) ⟨⟨_, hat.hp.kp⟩, kY⟩ ?_
          · intro w' hSw
            have s1 := hSw.2.cell 0
            (try simp at s1)
            (try simp only [List.getElem_toArray, List.getElem_cons_succ, List.getElem_cons_zero])
            go_simp
          (try simp only [List.getElem_toArray, List.getElem_cons_succ, List.getElem_cons_zero, Act.put, List.setIfInBounds_toArray, List.set_cons_zero, List.set_cons_succ])
          refine wpAnyE_one (i := 7) (o := _) (by kernel_rfl) rfl (fun K hK => ?_)
          (try simp only [List.getElem_toArray, List.getElem_cons_succ, List.getElem_cons_zero])
          go_simp
          (with_reducible refine (node_any p.l y1 6 _ HF.out (by omega)).mono ?_)
          rintro e w4 ⟨rfl, hb⟩
          replace hat := hat.keep hb
          replace kY := kY.keep hb
          clear hb
          refine hK.out _ _ (fun _ => ⟨⟨_, hat.hp.kp⟩, kY⟩) ?_
          clear hK K
          (try simp only [List.getElem_toArray, List.getElem_cons_succ, List.getElem_cons_zero, Act.put, List.setIfInBounds_toArray, List.set_cons_zero, List.set_cons_succ])
          refine wpAnyE_one (i := 8) (o := _) (by kernel_rfl) rfl (fun K hK => ?_)
          (try simp only [List.getElem_toArray, List.getElem_cons_succ, List.getElem_cons_zero])
          go_simp
          cases hz : log[k]? with
          | none =>
            (with_reducible refine (eload_asks (nodeAt p.l y1 6) hat.hp (eq_none hz hat.hk)).mono ?_)
            rintro e wq ⟨rfl, hb⟩
            refine ⟨rfl, Or.inl ⟨1, nodeAt p.l y1 6, 0, 0, rfl, hat.st.trans (Stp.of_below gp hb), ?_⟩⟩
            rw [HQ.out, ef_none hz]
            rfl
          | some z =>
            obtain ⟨z1, z2⟩ := z
            (with_reducible refine (eload_told (nodeAt p.l y1 6) hat.hp hz).mono ?_)
            rintro e w5 ⟨rfl, hp2, hs2⟩
            replace hat := hat.told (lt_some hz) hp2 hs2 (by rw [HZ.out]; exact zg) (by omega)
            replace kY := hs2.keep kY (by have := HZ.out; omega)
            have hq2 := HQ.out.trans (ef_some hz)
            have HQ2 := Lib.hid hq2
            clear hz hp2 hs2 hq2 HQ
            refine hK.out _ _ (fun _ => ⟨⟨_, hat.hp.kp⟩, kY⟩) ?_
            clear hK K
            (try simp only [List.getElem_toArray, List.getElem_cons_succ, List.getElem_cons_zero, Act.put, List.setIfInBounds_toArray, List.set_cons_zero, List.set_cons_succ])
            refine wpAnyE_take (i := 9) (oi := _) (v := .int .i64 z1) rfl (by kernel_rfl) (by kernel_rfl) (by kernel_rfl) (by kernel_rfl) (fun _ _ _ h => h) (Or.inl ⟨by rfl, ?_⟩) ⟨⟨_, hat.hp.kp⟩, kY⟩ ?_
            · intro w' hSw
              (try simp only [List.getElem_toArray, List.getElem_cons_succ, List.getElem_cons_zero])
              go_simp
            (try simp only [List.getElem_toArray, List.getElem_cons_succ, List.getElem_cons_zero, Act.put, List.setIfInBounds_toArray, List.set_cons_zero, List.set_cons_succ])
            refine wpAnyE_done (by kernel_rfl) ?_ _
            have s1 := kY.cell 1
            have l7 := kY.lt
            simp at s1
            go_wp2_with fail
            (with_reducible refine (within16_any z1 y2 (padH_len (show H.length ≤ 24 by omega)) hat.kH).mono ?_)
            rintro e w6 ⟨rfl, hb⟩
            rw [heldB_pad]
            replace hat := hat.keep hb
            replace kY := kY.keep hb
            clear hb s1 l7
            cases hB : heldB H z1 y2 with
            | true =>
              have hq2 : q = ef p.l op.a gone (siftN H (stays ++ [(y1, y2)]) (g.drop (x + 1))) (log.drop (k + 1)) := HQ2.out.trans (by rw [show EPh.add p.l op.a gone (z1, z2) (.rb H stays (y1, y2) (g.drop (x + 1))) = siftN H (stays ++ [(y1, y2)]) (g.drop (x + 1)) from if_pos hB])
              have HQ3 := Lib.hid hq2
              clear hq2 HQ2 hB
              have s0 := kY.cell 0
              have s1 := kY.cell 1
              have l7 := kY.lt
              simp at s0 s1
              obtain ⟨t0, hi0, hz0, hz1, hz2⟩ := info_parts pair_info
              have kr := Bk.made w6 51 #[.int .i64 y1, .int .i64 y2]
              have hbr := below_al (Below.refl w6.heap.size w6) (.cells #[.int .i64 y1, .int .i64 y2] 51)
              have hwl : w.heap.size ≤ w6.heap.size := hat.st.size
              replace hat := hat.keep hbr
              have hown5 : World.ownsRow (w6.alloc (.cells #[.int .i64 y1, .int .i64 y2] 51)) w.heap.size 51 2 (.slice G5 stays.length c5) stays.length (pairCells stays) := hat.own
              have HA := Lib.hid hat
              clear hat
              go_wp2_with (at_builtin; go_must (refine wpList_append_own_at _ rfl (.tmp 58) (.tmp 60) _ rfl w.heap.size 51 t0 _ 2 16 Try.underlying48 hi0 hz0 hz1 hz2 rfl (by omega) (.slice G5 stays.length c5) stays.length (pairCells stays) rfl hown5 ⟨w6.heap.size, 0, none⟩ 1 1 [.int .i64 y1, .int .i64 y2] rfl rfl (fun j u hu => by rw [Go.WideShapes.add_plain, Nat.zero_add, kr.cell j]; simpa using hu) (by simp [Value.oneCell']) (by simp only [maxLen]; omega) (by omega) (by simp; omega) ?_; intro v9 w7 hrow7 hgrow7 _ _))
              have hat := HA.out
              have hgk := keptT_grown hown5 hgrow7
              have hbg : Below w.heap.size (w6.alloc (.cells #[.int .i64 y1, .int .i64 y2] 51)) w7 := below_grow (Below.refl w.heap.size _) hown5 hgrow7 (Nat.le_trans hwl hbr.size) (Nat.le_refl _)
              have hp7 : PeSt w7 B gp p A (.slice (some ⟨bG, oG, none⟩) g.length c) (k + 1) log := ⟨hat.hp.kp.keptT hgk (by decide), hat.hp.sl.below (below_less hbg (by have := hat.hp.bp; have := HZ.out; omega)), hat.hp.bp, hat.hp.le⟩
              have HR1 := Lib.hid (show S3Rel B gp bH p A (.slice (some ⟨bG, oG, none⟩) g.length c) log op gone g H q w v9 (.int .i64 ((x + 1 : Nat) : Int)) w7 from ⟨x + 1, k + 1, stays ++ [(y1, y2)], rfl, hxt, by simp; omega, ⟨hat.hk, hp7, stp_own hat.st hbg, hat.kH.keptT hgk (by decide), by unfold OwnGone; rw [pairCells_snoc, List.length_append]; exact hrow7⟩, HQ3.out⟩)
              clear hat hp7 HA hown5 hrow7
              go_roundw
              case rel => exact HR1.out
              case measure => simp [intOf]; omega
            | false =>
              have hq2 : q = ef p.l op.a gone (.rg H stays (y1, y2) (g.drop (x + 1)) []) (log.drop (k + 1)) := HQ2.out.trans (by rw [show EPh.add p.l op.a gone (z1, z2) (.rb H stays (y1, y2) (g.drop (x + 1))) = .rg H stays (y1, y2) (g.drop (x + 1)) [] from if_neg (by rw [hB]; exact Bool.false_ne_true)])
              have HQ3 := Lib.hid hq2
              clear hq2 HQ2 hB
              go_upto_region 17 with fail
              refine wp_region_E (S := fun w' => (∃ i', Bk w' gp 94 (progE p A (.slice (some ⟨bG, oG, none⟩) g.length c) log.length i')) ∧ Bk w' b7 51 #[.int .i64 y1, .int .i64 y2]) (E := fun _ => false) (by kernel_rfl) ?_
              replace hat := hat.keep (below_drew' (Below.refl _ _))
              replace kY := kY.drew
              generalize w6.drew = w8 at *
              refine wpAnyE_take (i := 0) (oi := _) (v := .pointer (some ⟨gp, 0, none⟩)) rfl (by kernel_rfl) (by kernel_rfl) (by kernel_rfl) (by kernel_rfl) (fun _ _ _ h => h) (Or.inl ⟨by rfl, ?_⟩) ⟨⟨_, hat.hp.kp⟩, kY⟩ ?_
              · intro w' hSw
                (try simp only [List.getElem_toArray, List.getElem_cons_zero])
                go_simp
              (try simp only [List.getElem_toArray, List.getElem_cons_zero, Act.put, List.setIfInBounds_toArray, List.set_cons_zero, List.set_cons_succ])
              refine wpAnyE_take (i := 1) (oi := _) (v := .pointer (some ⟨gp, 0, none⟩)) rfl (by kernel_rfl) (by kernel_rfl) (by kernel_rfl) (by kernel_rfl) (fun _ _ _ h => h) (Or.inl ⟨by rfl, ?_⟩) ⟨⟨_, hat.hp.kp⟩, kY⟩ ?_
              · intro w' hSw
                (try simp only [List.getElem_toArray, List.getElem_cons_succ, List.getElem_cons_zero])
                go_simp
              (try simp only [List.getElem_toArray, List.getElem_cons_succ, List.getElem_cons_zero, Act.put, List.setIfInBounds_toArray, List.set_cons_zero, List.set_cons_succ])
              refine wpAnyE_take (i := 2) (oi := _) (v := .pointer (some ⟨gp, 0, none⟩)) rfl (by kernel_rfl) (by kernel_rfl) (by kernel_rfl) (by kernel_rfl) (fun _ _ _ h => h) (Or.inl ⟨by rfl, ?_⟩) ⟨⟨_, hat.hp.kp⟩, kY⟩ ?_
              · intro w' hSw
                (try simp only [List.getElem_toArray, List.getElem_cons_succ, List.getElem_cons_zero])
                go_simp
              (try simp only [List.getElem_toArray, List.getElem_cons_succ, List.getElem_cons_zero, Act.put, List.setIfInBounds_toArray, List.set_cons_zero, List.set_cons_succ])
              refine wpAnyE_take (i := 3) (oi := _) (v := .agg (lyC p.l)) rfl (by kernel_rfl) (by kernel_rfl) (by kernel_rfl) (by kernel_rfl) (fun _ _ _ h => h) (Or.inl ⟨by rfl, ?_⟩) ⟨⟨_, hat.hp.kp⟩, kY⟩ ?_
              · intro w' hSw
                obtain ⟨i9, k9⟩ := hSw.1
                (try simp only [List.getElem_toArray, List.getElem_cons_succ, List.getElem_cons_zero])
                simp only [execOp, Instr.loadAt, Instr.sureAddr, Sem.run_bind, Sem.run_pure]
                rw [show (Act.eval _ (Operand.tmp 64)) = Value.pointer (some ⟨gp, 0, none⟩) from rfl]
                simp only [Sem.run_pure, Result.andThen_ok, run_loadVar_sub w' gp 0 40 (lyC p.l) _ (prog_subE k9) Try.underlying40 rfl (by kernel_rfl)]
              (try simp only [List.getElem_toArray, List.getElem_cons_succ, List.getElem_cons_zero, Act.put, List.setIfInBounds_toArray, List.set_cons_zero, List.set_cons_succ])
              refine wpAnyE_take (i := 4) (oi := _) (v := .pointer (some ⟨b7, 0, none⟩)) rfl (by kernel_rfl) (by kernel_rfl) (by kernel_rfl) (by kernel_rfl) (fun _ _ _ h => h) (Or.inl ⟨by rfl, ?_⟩) ⟨⟨_, hat.hp.kp⟩, kY⟩ ?_
              · intro w' hSw
                (try simp only [List.getElem_toArray, List.getElem_cons_succ, List.getElem_cons_zero])
                go_simp
              (try simp only [List.getElem_toArray, List.getElem_cons_succ, List.getElem_cons_zero, Act.put, List.setIfInBounds_toArray, List.set_cons_zero, List.set_cons_succ])
              refine wpAnyE_take (i := 5) (oi := _) (v := .int .i64 y1) rfl (by kernel_rfl) (by kernel_rfl) (by kernel_rfl) (by kernel_rfl) (fun _ _ _ h => h) (Or.inl ⟨by rfl, ?_⟩) ⟨⟨_, hat.hp.kp⟩, kY⟩ ?_
              · intro w' hSw
                have s1 := hSw.2.cell 0
                (try simp at s1)
                (try simp only [List.getElem_toArray, List.getElem_cons_succ, List.getElem_cons_zero])
                go_simp
              (try simp only [List.getElem_toArray, List.getElem_cons_succ, List.getElem_cons_zero, Act.put, List.setIfInBounds_toArray, List.set_cons_zero, List.set_cons_succ])
              refine wpAnyE_take (i := 6) (oi := _) (v := .pointer (some ⟨gp, 0, none⟩)) rfl (by kernel_rfl) (by kernel_rfl) (by kernel_rfl) (by kernel_rfl) (fun _ _ _ h => h) (Or.inl ⟨by rfl, ?_⟩) ⟨⟨_, hat.hp.kp⟩, kY⟩ ?_
              · intro w' hSw
                (try simp only [List.getElem_toArray, List.getElem_cons_succ, List.getElem_cons_zero])
                go_simp
              (try simp only [List.getElem_toArray, List.getElem_cons_succ, List.getElem_cons_zero, Act.put, List.setIfInBounds_toArray, List.set_cons_zero, List.set_cons_succ])
              refine wpAnyE_take (i := 7) (oi := _) (v := clV gp) rfl (by kernel_rfl) (by kernel_rfl) (by kernel_rfl) (by kernel_rfl) (fun _ _ _ h => h) (Or.inl ⟨by rfl, ?_⟩) ⟨⟨_, hat.hp.kp⟩, kY⟩ ?_
              · intro w' hSw
                have hmf : ∀ (fn : Fn) (first cap : Array Value) (w : World), (Instr.makeFunc fn first cap).run Try.prog w = .ok (.func fn first cap) w := fun _ _ _ _ => rfl
                unfold clV
                (try simp only [List.getElem_toArray, List.getElem_cons_succ, List.getElem_cons_zero])
                go_simp
              (try simp only [List.getElem_toArray, List.getElem_cons_succ, List.getElem_cons_zero, Act.put, List.setIfInBounds_toArray, List.set_cons_zero, List.set_cons_succ])
              refine wpAnyE_one (i := 8) (o := _) (by kernel_rfl) rfl (fun K hK => ?_)
              (try simp only [List.getElem_toArray, List.getElem_cons_succ, List.getElem_cons_zero])
              go_simp
              (with_reducible refine (egive_any (a := op.a) (gone := gone) (held := H) (stays := stays) (g := (y1, y2)) (rest := g.drop (x + 1)) hat.hp hat.hk HF.out (by dsimp only; omega)).mono ?_)
              rw [← HQ3.out]
              intro e w9 hpost
              rcases hpost with ⟨qk, qc, qo, qv, L, rfl, hs9, hq9, hans⟩ | ⟨k9, rfl, hs9, hk9, hp9, hq9⟩
              · refine ⟨rfl, Or.inl ⟨qk, qc, qo, qv, rfl, hat.st.trans hs9, ?_⟩⟩
                rw [hq9]
                show (match giveM p.l y1 0 L with | .ask k c o v => AnsE.ask k c o v | .out _ _ _ _ => .out 0 false 0 0 []) = _
                rw [hans]
              replace hat := hat.told hk9 hp9 hs9 (by rw [HZ.out]; exact zg) (by omega)
              have HR1 := Lib.hid (show S3Rel B gp bH p A (.slice (some ⟨bG, oG, none⟩) g.length c) log op gone g H q w (.slice G5 stays.length c5) (.int .i64 ((x + 1 : Nat) : Int)) w9 from ⟨x + 1, k9, stays, rfl, hxt, by omega, hat, hq9⟩)
              replace kY := hs9.keep kY (by have := HZ.out; omega)
              clear hs9 hq9
              refine hK.out _ _ (fun _ => ⟨⟨_, hat.hp.kp⟩, kY⟩) ?_
              clear hK K
              (try simp only [List.getElem_toArray, List.getElem_cons_succ, List.getElem_cons_zero, Act.put, List.setIfInBounds_toArray, List.set_cons_zero, List.set_cons_succ])
              refine wpAnyE_done (by kernel_rfl) ?_ _
              clear hat hp9 kY
              go_wp2_with fail
              go_roundw
              case rel => exact HR1.out
              case measure => simp [intOf]; omega
        · have hxe : x = g.length := by omega
          subst hxe
          have hdd2 : decide ((g.length : Int) < (g.length : Int)) = false := by simp
          have hq3 : q = .rz stays := by rw [hqq, List.drop_length]; exact ef_rz _
          have c26 := hat.hp.kp.cell 26
          have f26 := hat.hp.kp.free 26
          have lg := hat.hp.kp.lt
          simp at c26
          have hs3 := Stp.set wr gp 26 (.slice G5 stays.length c5)
          have hp3 : PeSt (wr.setCell ⟨gp, 26, none⟩ (.slice G5 stays.length c5)) B gp p A (.slice G5 stays.length c5) k log := hat.hp.step hs3 (hat.hp.kp.stored 26 (.slice G5 stays.length c5))
          have hown3 := own_keepS (show World.ownsRow wr w.heap.size 51 2 (.slice G5 stays.length c5) stays.length (pairCells stays) from hat.own) hs3 (by rw [HZ.out]; exact zg)
          have HE := Lib.hid (show SiftPost B gp p A log op gone q w (.returned (.tuple #[])) _ from .inr ⟨stays, G5, stays.length, c5, k, rfl, hat.st.trans hs3, rfl, own_nilOk hown3, hown3, hp3, hq3⟩)
          clear hs3 hp3 hown3 hat hqq hq3
          go_wp2_with fail
          exact bodyPost_ret (v := .tuple #[]) (results_none rfl _ _ _) rfl HE.out
end Go.Proofs.Ytgjdjgainjedhaa
namespace Go.Proofs.Ytgjdjgainjedhaa
open Go.RowKit
set_option linter.unusedVariables false
attribute [local go_sem ↓] Go.wp_at_zero Go.wp_at_succ

/-- w' is w grown, but for block gp and rows of pairs that lie at B or behind. -/
structure Stq (B gp : Nat) (w w' : World) : Prop where
  low : Below B w w'
  size : w.heap.size ≤ w'.heap.size
  oth : ∀ (b : Nat) (t : TypeId) (cs : Array Value), b ≠ gp → t ≠ 51 → Bk w b t cs → Bk w' b t cs
theorem Stq.of_stp {B gp : Nat} {w w' : World} (h : Stp gp w w') (hB : B ≤ gp) (hs : B ≤ w.heap.size) : Stq B gp w w' := ⟨h.part hB hs, h.size, fun b t cs hn _ k => h.keep k hn⟩
theorem Stq.trans {B gp : Nat} {w w' w2 : World} (h : Stq B gp w w') (k : Stq B gp w' w2) : Stq B gp w w2 :=
  ⟨h.low.trans k.low, Nat.le_trans h.size k.size, fun b t cs h1 h2 h3 => k.oth b t cs h1 h2 (h.oth b t cs h1 h2 h3)⟩
theorem own_stp {w w' : World} {gp base n sz : Nat} {e t : TypeId} {v : Value} {xs : List Value} {cs : Array Value} (h : w.ownsRow base e sz v n xs) (s : Stp gp w w') (k : Bk w gp t cs) (ne : e ≠ t) : w'.ownsRow base e sz v n xs := by
  rcases h.2 with h1 | ⟨g, cap, cur, h1, h2, h3, h4⟩
  · exact ⟨h.1, .inl h1⟩
  · exact ⟨h.1, .inr ⟨g, cap, cur, h1, h2, s.keep (show Bk w g e cur from h3) (bk_ne (show Bk w g e cur from h3) k ne), h4⟩⟩
theorem stq_row {B gp go : Nat} {w w' : World} {cs : Array Value} (h : Stq B gp w w') (hg : w.heap.size = go) (hB : B ≤ gp) (hz : gp < go) : Stq B gp w (w'.setRow go cs) :=
  ⟨⟨h.low.os, h.low.tape, h.low.output, by have := h.low.size; simpa [World.setRow] using this, fun b hb => (setRow_other _ go b _ (by omega)).trans (h.low.block b hb)⟩, by have := h.size; simpa [World.setRow] using this, fun b t c hn ht k => (setRow_other _ go b _ (by have := k.lt; omega)).trans (h.oth b t c hn ht k)⟩
theorem own_nilOk2 {w : World} {base n m sz c : Nat} {G : Option Addr} {e : TypeId} {xs : List Value} (h : w.ownsRow base e sz (.slice G n c) m xs) (hm : m = n) : NilOk G n c := by
  subst hm
  exact own_nilOk h
def EqPost (B gp : Nat) (p : Pg) (A : Option Addr) (log : Log) (r : AnsE) (w : World) (e : Ending) (w' : World) : Prop :=
  match r with
  | .ask k c o v => e = .panicked [{ v := askE k c o v, recovered := false }] ∧ Stq B gp w w'
  | .out val is err point g => e = .returned (.agg (outC val is err point)) ∧ Stq B gp w w' ∧ ∃ G n c i, n = g.length ∧ NilOk G n c ∧ PeSt w' B gp p A (.slice G n c) i log ∧ PairRow w' G g
theorem EaPost.eq {B gp : Nat} {p : Pg} {A : Option Addr} {log : Log} {r : AnsE} {w : World} {e : Ending} {w' : World} (h : EaPost B gp p A log r w e w') (hB : B ≤ gp) (hs : B ≤ w.heap.size) : EqPost B gp p A log r w e w' := by
  cases r with
  | ask k c o v => exact ⟨h.1, Stq.of_stp h.2 hB hs⟩
  | out val is err point g => exact ⟨h.1, Stq.of_stp h.2.1 hB hs, h.2.2⟩
theorem eqPost_ask {B gp : Nat} {p : Pg} {A : Option Addr} {log : Log} {r : AnsE} {k c o v : Int} {w w' : World} (hr : r = .ask k c o v) (h : Stq B gp w w') : EqPost B gp p A log r w (.panicked [{ v := askE k c o v, recovered := false }]) w' := by rw [hr]; exact ⟨rfl, h⟩
theorem eqPost_out {B gp : Nat} {p : Pg} {A : Option Addr} {log : Log} {r : AnsE} {val : Int} {is : Bool} {err point : Int} {g : Gone} {G : Option Addr} {n c i : Nat} {w w' : World} (hr : r = .out val is err point g) (h : Stq B gp w w') (hn : n = g.length) (hi : NilOk G n c) (hp : PeSt w' B gp p A (.slice G n c) i log) (hg : PairRow w' G g) : EqPost B gp p A log r w (.returned (.agg (outC val is err point))) w' := by rw [hr]; exact ⟨rfl, h, G, n, c, i, hn, hi, hp, hg⟩
set_option maxRecDepth 100000 in
set_option maxHeartbeats 8000000 in
theorem retire_any {w : World} {B gp : Nat} {p : Pg} {A G : Option Addr} {n c : Nat} {log : Log} {op : Opr} {g : Gone} (h : PeSt w B gp p A (.slice G n c) 0 log) (hn : n = g.length) (hgm : g.length ≤ 900) (hown : OwnGone w B (.slice G n c) g) (f : LyFull p.l) (hs : 1 ≤ p.l.c.seats ∧ p.l.c.seats ≤ 8) (hgb : ∀ x ∈ g, x.1 ≤ 1000000) (ha : op.a ≤ 1000000) :
    Calls Try.prog 36 #[ptr gp, .int .i64 op.a] w (EqPost B gp p A log ((ef p.l op.a g .r0 log).ans p.l p.me op g) w) := by
  subst hn
  have HF := Lib.hid f
  have zg := h.kp.lt
  have hle := h.le
  have hbp := h.bp
  obtain ⟨q, hq⟩ : ∃ q, ef p.l op.a g .r0 log = q := ⟨_, rfl⟩
  rw [hq]
  have hal := below_al (Below.refl w.heap.size w) (.cells outZ 63)
  have ko := Bk.made w 63 outZ
  have hp := h.keep hal
  have hown1 : OwnGone (w.alloc (.cells outZ 63)) B (.slice G g.length c) g := own_keepb' (show World.ownsRow w B 51 2 (.slice G g.length c) g.length (pairCells g) from hown) hal
  have hst := Stq.of_stp (Stp.of_below gp hal) hbp (by omega)
  have HQ := Lib.hid hq.symm
  have HB := Lib.hid (And.intro hgb (And.intro hs ha))
  clear h f hal hq hown hgb ha
  go_enter Try.func36, Try.ntmps36
  go_upto_region 1 with fail
  generalize w.alloc (.cells outZ 63) = w1 at *
  obtain ⟨go, hgo⟩ : ∃ g, w.heap.size = g := ⟨_, rfl⟩
  have HGO := Lib.hid hgo
  rw [hgo] at ko zg ⊢
  clear hgo
  have c11 := hp.kp.cell 11
  have lg := hp.kp.lt
  simp at c11
  go_wp2_with fail
  cases hx : log[0]? with
  | none =>
    (with_reducible refine (eload_asks p.l.era hp (eq_none hx (Nat.zero_le _))).mono ?_)
    rintro e w2 ⟨rfl, hb⟩
    exact ⟨rfl, eqPost_ask (by rw [HQ.out, show log = log.drop 0 from rfl, ef_none hx]; rfl) (hst.trans (Stq.of_stp (Stp.of_below gp hb) hbp (by have := hp.kp.lt; omega)))⟩
  | some x =>
  obtain ⟨x1, x2⟩ := x
  (with_reducible refine (eload_told p.l.era hp hx).mono ?_)
  rintro e w2 ⟨rfl, hp2, hs2⟩
  have hq2 : q = ef p.l op.a g (.r1 x1) (log.drop 1) := HQ.out.trans (ef_some (i := 0) hx)
  have HQ2 := Lib.hid hq2
  have hlt1 := lt_some hx
  replace hst := hst.trans (Stq.of_stp hs2 hbp (by omega))
  replace ko := hs2.keep ko (by omega)
  have hown2 := own_stp (show World.ownsRow w1 B 51 2 (.slice G g.length c) g.length (pairCells g) from hown1) hs2 hp.kp (by decide)
  have l2 : B ≤ w2.heap.size := by have := hs2.size; have := hp.kp.lt; omega
  clear hx hq2 HQ hs2 hown1 hp c11 lg
  have c11 := hp2.kp.cell 11
  have lg := hp2.kp.lt
  simp at c11
  go_wp2_with fail
  cases hy : log[1]? with
  | none =>
    (with_reducible refine (edo_asks 4 p.l.era 0 1 hp2 (eq_none hy (by omega))).mono ?_)
    rintro e w3 ⟨rfl, hb⟩
    exact ⟨rfl, eqPost_ask (by rw [HQ2.out, ef_none hy]; rfl) (hst.trans (Stq.of_stp (Stp.of_below gp hb) hbp l2))⟩
  | some y =>
  obtain ⟨y1, y2⟩ := y
  (with_reducible refine (edo_told 4 p.l.era 0 1 hp2 hy).mono ?_)
  rintro e w3 ⟨rfl, hp3, hs2⟩
  have hlt2 := lt_some hy
  have hq3 : q = ef p.l op.a g (if 2 * p.l.c.seats ≤ ((g ++ [(op.a, x1)]).length : Int) then .rs (g ++ [(op.a, x1)]) [] else .rz (g ++ [(op.a, x1)])) (log.drop 2) := HQ2.out.trans (ef_some (i := 1) hy)
  have HQ3 := Lib.hid hq3
  replace hst := hst.trans (Stq.of_stp hs2 hbp l2)
  replace ko := hs2.keep ko (by omega)
  have hown3 := own_stp hown2 hs2 hp2.kp (by decide)
  have zg3 := hp3.kp.lt
  clear hy hq3 HQ2 hs2 hown2 hp2 c11 lg l2
  have c28 := hp3.kp.cell 28
  simp at c28
  go_upto_region 4 with (refine wpList_store_new rfl 63 (.tmp 6) (.tmp 27) rfl rfl w3.heap.size _ _ (outC 0 true 0 1) rfl rfl rfl rfl (by kernel_rfl) rfl (by simp [Value.oneCell']) ?_)
  have zo := ko.lt
  have k6 := Bk.made w3 63 (outC 0 true 0 1)
  have hal := below_al (Below.refl w3.heap.size w3) (.cells (outC 0 true 0 1) 63)
  replace hp3 := hp3.keep hal
  replace hst := hst.trans (Stq.of_stp (Stp.of_below gp hal) hbp (by omega))
  replace ko := ko.keep hal
  have hown4 := own_keepb' hown3 hal
  clear c28 zg3 hown3 hal
  generalize w3.alloc (.cells (outC 0 true 0 1) 63) = w4 at *
  obtain ⟨b6, hb6⟩ : ∃ g, w3.heap.size = g := ⟨_, rfl⟩
  rw [hb6] at k6 zo ⊢
  clear hb6
  -- the row of what is gone
  obtain ⟨t0, hi0, hz0, hz1, hz2⟩ := info_parts pair_info
  have kr := Bk.made w4 51 #[.int .i64 op.a, .int .i64 x1]
  have hbr := below_al (Below.refl w4.heap.size w4) (.cells #[.int .i64 op.a, .int .i64 x1] 51)
  have zg4 : B ≤ w4.heap.size := by have := hp3.kp.lt; omega
  have hown5 := own_keepb' hown4 hbr
  have c26 := hp3.kp.cell 26
  have lg := hp3.kp.lt
  simp at c26
  have HA := Lib.hid (And.intro (hp3.keep hbr) (And.intro (hst.trans (Stq.of_stp (Stp.of_below gp hbr) hbp zg4)) (And.intro (ko.keep hbr) (k6.keep hbr))))
  clear hp3 hst ko k6 hown4
  go_upto_region 5 with (at_builtin; go_must (refine wpList_append_own_at _ rfl (.tmp 32) (.tmp 36) _ rfl B 51 t0 _ 2 16 Try.underlying48 hi0 hz0 hz1 hz2 rfl (by omega) (.slice G g.length c) g.length (pairCells g) rfl hown5 ⟨w4.heap.size, 0, none⟩ 1 1 [.int .i64 op.a, .int .i64 x1] rfl rfl (fun j u hu => by rw [Go.WideShapes.add_plain, Nat.zero_add, kr.cell j]; simpa using hu) (by simp [Value.oneCell']) (by simp only [maxLen]; omega) (by omega) (by simp; omega) ?_; intro v9 w7 hrow7 hgrow7 _ _; have hgk := keptT_grown hown5 hgrow7; have kp7 := HA.out.1.kp.keptT hgk (by decide); have q26 := kp7.cell 26; have f26 := kp7.free 26; have l26 := kp7.lt; simp at q26; obtain ⟨G9, c9, rfl⟩ := own_slice hrow7))
  clear q26 f26 l26 c26 lg
  have hbg : Below B (w4.alloc (.cells #[.int .i64 op.a, .int .i64 x1] 51)) w7 := below_grow (Below.refl B _) hown5 hgrow7 (Nat.le_trans zg4 hbr.size) (Nat.le_refl _)
  have hsz7 : (w4.alloc (.cells #[.int .i64 op.a, .int .i64 x1] 51)).heap.size ≤ w7.heap.size := hgrow7.size
  obtain ⟨hp4, hst4, ko4, k64⟩ := HA.out
  have ko7 := ko4.keptT hgk (by decide)
  have k67 := k64.keptT hgk (by decide)
  have hrow8 : World.ownsRow w7 B 51 2 (.slice G9 (g.length + 1) c9) (g ++ [(op.a, x1)]).length (pairCells (g ++ [(op.a, x1)])) := by
    rw [pairCells_snoc, List.length_append]
    exact hrow7
  have hs3 := Stp.set w7 gp 26 (.slice G9 (g.length + 1) c9)
  have hown8 := own_stp hrow8 hs3 kp7 (by decide)
  have hp8 : PeSt (w7.setCell ⟨gp, 26, none⟩ (.slice G9 (g.length + 1) c9)) B gp p A (.slice G9 (g.length + 1) c9) 2 log := ⟨kp7.stored 26 (.slice G9 (g.length + 1) c9), (hp4.sl.below hbg).below (hs3.part hbp (Nat.le_trans zg4 (Nat.le_trans hbr.size hsz7))), hbp, hle⟩
  have hst8 : Stq B gp w (w7.setCell ⟨gp, 26, none⟩ (.slice G9 (g.length + 1) c9)) := (hst4.trans ⟨hbg, hsz7, fun b t cs _ ht k => k.keptT hgk ht⟩).trans (Stq.of_stp hs3 hbp (Nat.le_trans zg4 (Nat.le_trans hbr.size hsz7)))
  replace ko := hs3.keep ko7 (by omega)
  replace k6 := hs3.keep k67 (by omega)
  have zg8 := hp8.kp.lt
  clear hrow8 hs3 hrow7 hgrow7 hgk kp7 hbg hsz7 HA hp4 hst4 ko4 k64 ko7 k67 hown5 hbr kr hi0 hz0 hz1 hz2
  generalize w7.setCell ⟨gp, 26, none⟩ (.slice G9 (g.length + 1) c9) = w8 at *
  have hlen : (g ++ [(op.a, x1)]).length = g.length + 1 := by simp
  have hgb8 : ∀ z ∈ g ++ [(op.a, x1)], z.1 ≤ 1000000 := by
    intro z hz
    rcases List.mem_append.1 hz with h1 | h1
    · exact HB.out.1 z h1
    · simp at h1; subst h1; exact HB.out.2.2
  obtain ⟨g1, hg1⟩ : ∃ g1, g ++ [(op.a, x1)] = g1 := ⟨_, rfl⟩
  rw [hg1] at hlen hgb8 hown8 HQ3
  clear hg1
  obtain ⟨m, hm⟩ : ∃ m, g.length + 1 = m := ⟨_, rfl⟩
  rw [hm] at hlen hown8 hp8 ⊢
  have hga : GoneAt w8 [gp] G9 g1 := own_goneAt hown8 hlen.symm (by intro x hx; simp at hx; subst hx; exact ⟨_, _, hp8.kp, by decide⟩)
  have HX := Lib.hid (And.intro hlen (And.intro hgb8 (And.intro hown8 (And.intro hga (And.intro ko k6)))))
  have hm1 : m ≤ 1000 := by omega
  clear hlen hgb8 hown8 hga ko k6 hm
  refine wp_region_E (S := fun w' => Bk w' gp 94 (progE p A (.slice G9 m c9) log.length 2)) (E := fun _ => false) (by kernel_rfl) ?_
  replace hp8 := hp8.drew
  have hd8 := below_drew' (Below.refl w8.heap.size w8)
  replace hst8 := hst8.trans (Stq.of_stp (Stp.of_below gp hd8) hbp (by omega))
  have HX2 := Lib.hid (And.intro HX.out.1 (And.intro HX.out.2.1 (And.intro (own_keepb' HX.out.2.2.1 hd8) (And.intro (HX.out.2.2.2.1.keep hd8) (And.intro (HX.out.2.2.2.2.1.keep hd8) (HX.out.2.2.2.2.2.keep hd8))))))
  clear HX hd8 zg8
  generalize w8.drew = w9 at *
  refine wpAnyE_take (i := 0) (oi := _) (v := .pointer (some ⟨gp, 0, none⟩)) rfl (by kernel_rfl) (by kernel_rfl) (by kernel_rfl) (by kernel_rfl) (fun _ _ _ h => h) (Or.inl ⟨by rfl, ?_⟩) hp8.kp ?_
  · intro w' hSw
    (try simp only [List.getElem_toArray, List.getElem_cons_zero])
    go_simp
  (try simp only [List.getElem_toArray, List.getElem_cons_zero, Act.put, List.setIfInBounds_toArray, List.set_cons_zero, List.set_cons_succ])
  refine wpAnyE_take (i := 1) (oi := _) (v := .pointer (some ⟨gp, 0, none⟩)) rfl (by kernel_rfl) (by kernel_rfl) (by kernel_rfl) (by kernel_rfl) (fun _ _ _ h => h) (Or.inl ⟨by rfl, ?_⟩) hp8.kp ?_
  · intro w' hSw
    (try simp only [List.getElem_toArray, List.getElem_cons_succ, List.getElem_cons_zero])
    go_simp
  (try simp only [List.getElem_toArray, List.getElem_cons_succ, List.getElem_cons_zero, Act.put, List.setIfInBounds_toArray, List.set_cons_zero, List.set_cons_succ])
  refine wpAnyE_take (i := 2) (oi := _) (v := .pointer (some ⟨gp, 26, none⟩)) rfl (by kernel_rfl) (by kernel_rfl) (by kernel_rfl) (by kernel_rfl) (fun _ _ _ h => h) (Or.inl ⟨by rfl, ?_⟩) hp8.kp ?_
  · intro w' hSw
    (try simp only [List.getElem_toArray, List.getElem_cons_succ, List.getElem_cons_zero])
    go_simp
  (try simp only [List.getElem_toArray, List.getElem_cons_succ, List.getElem_cons_zero, Act.put, List.setIfInBounds_toArray, List.set_cons_zero, List.set_cons_succ])
  refine wpAnyE_take (i := 3) (oi := _) (v := .slice G9 m c9) rfl (by kernel_rfl) (by kernel_rfl) (by kernel_rfl) (by kernel_rfl) (fun _ _ _ h => h) (Or.inl ⟨by rfl, ?_⟩) hp8.kp ?_
  · intro w' hSw
    have s1 := hSw.cell 26
    (try simp at s1)
    (try simp only [List.getElem_toArray, List.getElem_cons_succ, List.getElem_cons_zero])
    go_simp
  (try simp only [List.getElem_toArray, List.getElem_cons_succ, List.getElem_cons_zero, Act.put, List.setIfInBounds_toArray, List.set_cons_zero, List.set_cons_succ])
  refine wpAnyE_take (i := 4) (oi := _) (v := .int .i64 (m : Nat)) rfl (by kernel_rfl) (by kernel_rfl) (by kernel_rfl) (by kernel_rfl) (fun _ _ _ h => h) (Or.inl ⟨by rfl, ?_⟩) hp8.kp ?_
  · intro w' hSw
    (try simp only [List.getElem_toArray, List.getElem_cons_succ, List.getElem_cons_zero])
    go_simp
  (try simp only [List.getElem_toArray, List.getElem_cons_succ, List.getElem_cons_zero, Act.put, List.setIfInBounds_toArray, List.set_cons_zero, List.set_cons_succ])
  refine wpAnyE_take (i := 5) (oi := _) (v := .pointer (some ⟨gp, 0, none⟩)) rfl (by kernel_rfl) (by kernel_rfl) (by kernel_rfl) (by kernel_rfl) (fun _ _ _ h => h) (Or.inl ⟨by rfl, ?_⟩) hp8.kp ?_
  · intro w' hSw
    (try simp only [List.getElem_toArray, List.getElem_cons_succ, List.getElem_cons_zero])
    go_simp
  (try simp only [List.getElem_toArray, List.getElem_cons_succ, List.getElem_cons_zero, Act.put, List.setIfInBounds_toArray, List.set_cons_zero, List.set_cons_succ])
  refine wpAnyE_take (i := 6) (oi := _) (v := .pointer (some ⟨gp, 0, none⟩)) rfl (by kernel_rfl) (by kernel_rfl) (by kernel_rfl) (by kernel_rfl) (fun _ _ _ h => h) (Or.inl ⟨by rfl, ?_⟩) hp8.kp ?_
  · intro w' hSw
    (try simp only [List.getElem_toArray, List.getElem_cons_succ, List.getElem_cons_zero])
    go_simp
  (try simp only [List.getElem_toArray, List.getElem_cons_succ, List.getElem_cons_zero, Act.put, List.setIfInBounds_toArray, List.set_cons_zero, List.set_cons_succ])
  refine wpAnyE_take (i := 7) (oi := _) (v := .pointer (some ⟨gp, 0, none⟩)) rfl (by kernel_rfl) (by kernel_rfl) (by kernel_rfl) (by kernel_rfl) (fun _ _ _ h => h) (Or.inl ⟨by rfl, ?_⟩) hp8.kp ?_
  · intro w' hSw
    (try simp only [List.getElem_toArray, List.getElem_cons_succ, List.getElem_cons_zero])
    go_simp
  (try simp only [List.getElem_toArray, List.getElem_cons_succ, List.getElem_cons_zero, Act.put, List.setIfInBounds_toArray, List.set_cons_zero, List.set_cons_succ])
  refine wpAnyE_take (i := 8) (oi := _) (v := .pointer (some ⟨gp, 0, none⟩)) rfl (by kernel_rfl) (by kernel_rfl) (by kernel_rfl) (by kernel_rfl) (fun _ _ _ h => h) (Or.inl ⟨by rfl, ?_⟩) hp8.kp ?_
  · intro w' hSw
    (try simp only [List.getElem_toArray, List.getElem_cons_succ, List.getElem_cons_zero])
    go_simp
  (try simp only [List.getElem_toArray, List.getElem_cons_succ, List.getElem_cons_zero, Act.put, List.setIfInBounds_toArray, List.set_cons_zero, List.set_cons_succ])
  refine wpAnyE_take (i := 9) (oi := _) (v := .pointer (some ⟨gp, 0, none⟩)) rfl (by kernel_rfl) (by kernel_rfl) (by kernel_rfl) (by kernel_rfl) (fun _ _ _ h => h) (Or.inl ⟨by rfl, ?_⟩) hp8.kp ?_
  · intro w' hSw
    (try simp only [List.getElem_toArray, List.getElem_cons_succ, List.getElem_cons_zero])
    go_simp
  (try simp only [List.getElem_toArray, List.getElem_cons_succ, List.getElem_cons_zero, Act.put, List.setIfInBounds_toArray, List.set_cons_zero, List.set_cons_succ])
  refine wpAnyE_take (i := 10) (oi := _) (v := .int .i64 p.l.c.seats) rfl (by kernel_rfl) (by kernel_rfl) (by kernel_rfl) (by kernel_rfl) (fun _ _ _ h => h) (Or.inl ⟨by rfl, ?_⟩) hp8.kp ?_
  · intro w' hSw
    have s1 := hSw.cell 0
    (try simp at s1)
    (try simp only [List.getElem_toArray, List.getElem_cons_succ, List.getElem_cons_zero])
    go_simp
  (try simp only [List.getElem_toArray, List.getElem_cons_succ, List.getElem_cons_zero, Act.put, List.setIfInBounds_toArray, List.set_cons_zero, List.set_cons_succ])
  refine wpAnyE_take (i := 11) (oi := _) (v := .int .i64 (2 * p.l.c.seats)) rfl (by kernel_rfl) (by kernel_rfl) (by kernel_rfl) (by kernel_rfl) (fun _ _ _ h => h) (Or.inl ⟨by rfl, ?_⟩) hp8.kp ?_
  · intro w' hSw
    have hw2 : IntKind.i64.wrap (2 * p.l.c.seats) = 2 * p.l.c.seats := IntWalk.i64_in _ (by omega)
    (try simp only [List.getElem_toArray, List.getElem_cons_succ, List.getElem_cons_zero])
    go_simp
  (try simp only [List.getElem_toArray, List.getElem_cons_succ, List.getElem_cons_zero, Act.put, List.setIfInBounds_toArray, List.set_cons_zero, List.set_cons_succ])
  refine wpAnyE_take (i := 12) (oi := _) (v := .bool (decide (2 * p.l.c.seats ≤ (m : Int)))) rfl (by kernel_rfl) (by kernel_rfl) (by kernel_rfl) (by kernel_rfl) (fun _ _ _ h => h) (Or.inl ⟨by rfl, ?_⟩) hp8.kp ?_
  · intro w' hSw
    (try simp only [List.getElem_toArray, List.getElem_cons_succ, List.getElem_cons_zero])
    go_simp
  (try simp only [List.getElem_toArray, List.getElem_cons_succ, List.getElem_cons_zero, Act.put, List.setIfInBounds_toArray, List.set_cons_zero, List.set_cons_succ])
  refine wpAnyE_done (by kernel_rfl) ?_ _
  have HQ4 := Lib.hid (show q = ef p.l op.a g (if 2 * p.l.c.seats ≤ (m : Int) then .rs g1 [] else .rz g1) (log.drop 2) by have := HQ3.out; rw [HX2.out.1] at this; exact this)
  clear HQ3
  by_cases hge : 2 * p.l.c.seats ≤ (m : Int)
  · have e1 : decide (2 * p.l.c.seats ≤ (m : Int)) = true := by simpa using hge
    have hq5 : q = ef p.l op.a g (.rs g1 []) (log.drop 2) := by rw [HQ4.out, if_pos hge]
    have HQ5 := Lib.hid hq5
    clear hq5 HQ4
    rw [e1]
    go_wp2_with fail
    (with_reducible refine (sift_any (op := op) (gone := g) hp8 HX2.out.1.symm (by rw [HX2.out.1]; exact hm1) HX2.out.2.2.2.1 (by omega) HF.out HB.out.2.1 HX2.out.2.1).mono ?_)
    rw [← HQ5.out]
    intro e w10 hpost
    have hsz9 : B ≤ w9.heap.size := by have := hp8.kp.lt; omega
    rcases hpost with ⟨qk, qc, qo, qv, rfl, hs9, hans⟩ | ⟨stays, G2, n2, c2, i2, rfl, hs9, hn2, hni, hown9, hp9, hq9⟩
    · exact ⟨rfl, eqPost_ask hans (hst8.trans (Stq.of_stp hs9 hbp hsz9))⟩
    have ko := hs9.keep HX2.out.2.2.2.2.1 (by omega)
    have k6 := hs9.keep HX2.out.2.2.2.2.2 (by omega)
    replace hst8 := hst8.trans (Stq.of_stp hs9 hbp hsz9)
    have HE := Lib.hid (And.intro hn2 (And.intro hni (And.intro hown9 (And.intro hp9 (And.intro hq9 hst8)))))
    have kob := ko
    clear hn2 hni hown9 hp9 hq9 hst8 hs9 hp8 e1 hge
    go_wp2_with (first
      | (refine wpList_load_row rfl 63 (.tmp 6) rfl b6 rfl 63 (outC 0 true 0 1) (0, 0) _ k6 Try.underlying63 rfl (by kernel_rfl) ?_)
      | (refine wpList_store_rowTo rfl 63 (.tmp 4) (.tmp 55) rfl rfl go (outC 0 true 0 1) rfl rfl 63 outZ ko (by kernel_rfl) rfl (by simp [Value.oneCell']) ?_))
    obtain ⟨hn2, hni, hown9, hp9, hq9, hst8⟩ := HE.out
    have kf := setRow_heap _ _ outZ (outC 0 true 0 1) 63 (0, 0) ko
    have hga9 : PairRow w10 G2 stays := own_pairRow hown9 hn2
    exact bodyPost_ret (v := .agg (outC 0 true 0 1)) (results_cell_row (p := 4) (ty := 63) rfl _ _ go 63 (outC 0 true 0 1) (0, 0) _ rfl kf Try.underlying63 rfl (by kernel_rfl)) rfl (eqPost_out (by rw [hq9]; rfl) (stq_row hst8 HGO.out hbp zg) hn2 hni (hp9.row (by omega)) (hga9.row kob (by decide)))
  · have e1 : decide (2 * p.l.c.seats ≤ (m : Int)) = false := by simpa using hge
    have hq5 : q = .rz g1 := by rw [HQ4.out, if_neg hge]; exact ef_rz _
    have HQ5 := Lib.hid hq5
    clear hq5 HQ4
    have ko := HX2.out.2.2.2.2.1
    have k6 := HX2.out.2.2.2.2.2
    rw [e1]
    clear hge e1
    have HE := Lib.hid (And.intro hp8 hst8)
    have kob := ko
    clear hp8 hst8
    go_wp2_with (first
      | (refine wpList_load_row rfl 63 (.tmp 6) rfl b6 rfl 63 (outC 0 true 0 1) (0, 0) _ k6 Try.underlying63 rfl (by kernel_rfl) ?_)
      | (refine wpList_store_rowTo rfl 63 (.tmp 4) (.tmp 55) rfl rfl go (outC 0 true 0 1) rfl rfl 63 outZ ko (by kernel_rfl) rfl (by simp [Value.oneCell']) ?_))
    obtain ⟨hp9, hst8⟩ := HE.out
    have kf := setRow_heap _ _ outZ (outC 0 true 0 1) 63 (0, 0) ko
    have hown9 := HX2.out.2.2.1
    have hga9 : PairRow w9 G9 g1 := own_pairRow hown9 HX2.out.1.symm
    exact bodyPost_ret (v := .agg (outC 0 true 0 1)) (results_cell_row (p := 4) (ty := 63) rfl _ _ go 63 (outC 0 true 0 1) (0, 0) _ rfl kf Try.underlying63 rfl (by kernel_rfl)) rfl (eqPost_out (by rw [HQ5.out]; rfl) (stq_row hst8 HGO.out hbp zg) HX2.out.1.symm (own_nilOk2 hown9 HX2.out.1) (hp9.row (by omega)) (hga9.row kob (by decide)))
end Go.Proofs.Ytgjdjgainjedhaa
namespace Go.Proofs.Ytgjdjgainjedhaa
open Go.RowKit
set_option linter.unusedVariables false
attribute [local go_sem ↓] Go.wp_at_zero Go.wp_at_succ

set_option maxRecDepth 100000 in
set_option maxHeartbeats 4000000 in
theorem may_any (l : Ly) (op : Opr) (w : World) : Calls Try.prog 33 #[lyV l, .agg (oprC op)] w (BoolBelow (mayE l op) w) := by
  obtain ⟨R, hR⟩ : ∃ r, mayE l op = r := ⟨_, rfl⟩
  rw [hR]
  unfold mayE at hR
  have hbl := below_al (below_al (Below.refl w.heap.size w) (.cells (lyC l) 40)) (.cells (oprC op) 46)
  have kL := (Bk.made w 40 (lyC l)).alloc (.cells (oprC op) 46)
  have kO := Bk.new (w.alloc (.cells (lyC l) 40)) (g := w.heap.size + 1) (by simp) 46 (oprC op)
  have HBL := Lib.hid hbl
  clear hbl
  by_cases h1 : op.kind = 1
  · rw [if_pos h1] at hR
    have g1 : (op.kind == (1 : Int)) = true := by simpa using h1
    have g1' : decide (op.kind = (1 : Int)) = true := by simpa using h1
    clear h1
    by_cases a1 : 0 ≤ op.a
    · have e1 : decide (0 ≤ op.a) = true := by simpa using a1
      rw [e1] at hR
      by_cases a2 : op.a < 3
      · have e2 : decide (op.a < 3) = true := by simpa using a2
        rw [e2] at hR
        by_cases a3 : 0 ≤ op.b
        · have e3 : decide (0 ≤ op.b) = true := by simpa using a3
          rw [e3] at hR
          have hR' : R = decide (op.b < l.size) := by rw [← hR]; simp
          subst hR'
          clear hR
          go_enter Try.func33, Try.ntmps33
          go_upto_region 1 with fail
          generalize (w.alloc (.cells (lyC l) 40)).alloc (.cells (oprC op) 46) = w1 at *
          have c0 := kO.cell 0
          have c2 := kO.cell 2
          have c3 := kO.cell 3
          have d24 := kL.cell 24
          have l0 := kO.lt
          have l1 := kL.lt
          simp at c0 c2 c3 d24
          go_wp2
          go_ret
          exact ⟨rfl, HBL.out⟩
        · have e3 : decide (0 ≤ op.b) = false := by simpa using a3
          rw [e3] at hR
          have hR' : R = false := by rw [← hR]; simp
          subst hR'
          clear hR
          go_enter Try.func33, Try.ntmps33
          go_upto_region 1 with fail
          generalize (w.alloc (.cells (lyC l) 40)).alloc (.cells (oprC op) 46) = w1 at *
          have c0 := kO.cell 0
          have c2 := kO.cell 2
          have c3 := kO.cell 3
          have d24 := kL.cell 24
          have l0 := kO.lt
          have l1 := kL.lt
          simp at c0 c2 c3 d24
          go_wp2
          go_ret
          exact ⟨rfl, HBL.out⟩
      · have e2 : decide (op.a < 3) = false := by simpa using a2
        rw [e2] at hR
        have hR' : R = false := by rw [← hR]; simp
        subst hR'
        clear hR
        go_enter Try.func33, Try.ntmps33
        go_upto_region 1 with fail
        generalize (w.alloc (.cells (lyC l) 40)).alloc (.cells (oprC op) 46) = w1 at *
        have c0 := kO.cell 0
        have c2 := kO.cell 2
        have l0 := kO.lt
        have l1 := kL.lt
        simp at c0 c2
        go_wp2
        go_ret
        exact ⟨rfl, HBL.out⟩
    · have e1 : decide (0 ≤ op.a) = false := by simpa using a1
      rw [e1] at hR
      have hR' : R = false := by rw [← hR]; simp
      subst hR'
      clear hR
      go_enter Try.func33, Try.ntmps33
      go_upto_region 1 with fail
      generalize (w.alloc (.cells (lyC l) 40)).alloc (.cells (oprC op) 46) = w1 at *
      have c0 := kO.cell 0
      have c2 := kO.cell 2
      have l0 := kO.lt
      have l1 := kL.lt
      simp at c0 c2
      go_wp2
      go_ret
      exact ⟨rfl, HBL.out⟩
  rw [if_neg h1] at hR
  have g1 : (op.kind == (1 : Int)) = false := by simpa using h1
  have g1' : decide (op.kind = (1 : Int)) = false := by simpa using h1
  clear h1
  by_cases h2 : op.kind = 2
  · rw [if_pos h2] at hR
    subst hR
    have g2 : (op.kind == (2 : Int)) = true := by simpa using h2
    have g2' : decide (op.kind = (2 : Int)) = true := by simpa using h2
    clear h2
    go_enter Try.func33, Try.ntmps33
    go_upto_region 1 with fail
    generalize (w.alloc (.cells (lyC l) 40)).alloc (.cells (oprC op) 46) = w1 at *
    have c0 := kO.cell 0
    have l0 := kO.lt
    simp at c0
    go_wp2
    go_ret
    exact ⟨rfl, HBL.out⟩
  rw [if_neg h2] at hR
  have g2 : (op.kind == (2 : Int)) = false := by simpa using h2
  have g2' : decide (op.kind = (2 : Int)) = false := by simpa using h2
  clear h2
  by_cases h3 : op.kind = 3
  · rw [if_pos h3] at hR
    have g3 : (op.kind == (3 : Int)) = true := by simpa using h3
    have g3' : decide (op.kind = (3 : Int)) = true := by simpa using h3
    clear h3
    by_cases a1 : 1 ≤ op.a
    · have e1 : decide (1 ≤ op.a) = true := by simpa using a1
      rw [e1] at hR
      have hR' : R = decide (op.a ≤ l.c.nodes) := by rw [← hR]; simp
      subst hR'
      clear hR
      go_enter Try.func33, Try.ntmps33
      go_upto_region 1 with fail
      generalize (w.alloc (.cells (lyC l) 40)).alloc (.cells (oprC op) 46) = w1 at *
      have c0 := kO.cell 0
      have c2 := kO.cell 2
      have d1 := kL.cell 1
      have l0 := kO.lt
      have l1 := kL.lt
      simp at c0 c2 d1
      go_wp2
      go_ret
      exact ⟨rfl, HBL.out⟩
    · have e1 : decide (1 ≤ op.a) = false := by simpa using a1
      rw [e1] at hR
      have hR' : R = false := by rw [← hR]; simp
      subst hR'
      clear hR
      go_enter Try.func33, Try.ntmps33
      go_upto_region 1 with fail
      generalize (w.alloc (.cells (lyC l) 40)).alloc (.cells (oprC op) 46) = w1 at *
      have c0 := kO.cell 0
      have c2 := kO.cell 2
      have l0 := kO.lt
      have l1 := kL.lt
      simp at c0 c2
      go_wp2
      go_ret
      exact ⟨rfl, HBL.out⟩
  rw [if_neg h3] at hR
  subst hR
  have g3 : (op.kind == (3 : Int)) = false := by simpa using h3
  have g3' : decide (op.kind = (3 : Int)) = false := by simpa using h3
  clear h3
  go_enter Try.func33, Try.ntmps33
  go_upto_region 1 with fail
  generalize (w.alloc (.cells (lyC l) 40)).alloc (.cells (oprC op) 46) = w1 at *
  have c0 := kO.cell 0
  have l0 := kO.lt
  simp at c0
  go_wp2
  go_ret
  exact ⟨rfl, HBL.out⟩
end Go.Proofs.Ytgjdjgainjedhaa
