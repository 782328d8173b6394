/- era's guard and drop. Printed by gu_gen.py. -/
import Derived.Test.YtgjdjgainjedhaaEPr
import Derived.Test.YtgjdjgainjedhaaTake
import Derived.Test.YtgjdjgainjedhaaLayR
namespace Go.Proofs.Ytgjdjgainjedhaa
open Go.RowKit
set_option linter.unusedVariables false
attribute [local go_sem ↓] Go.wp_at_zero Go.wp_at_succ

/-- The phase behind more results. -/
def ef (l : Ly) (a : Int) (gone : Gone) (q : EPh) (log : Log) : EPh := log.foldl (fun p r => p.add l a gone r) q
theorem ef_none {l : Ly} {a : Int} {gone : Gone} {q : EPh} {log : Log} {i : Nat} (h : log[i]? = none) : ef l a gone q (log.drop i) = q := by rw [drop_end h]; rfl
theorem ef_some {l : Ly} {a : Int} {gone : Gone} {q : EPh} {log : Log} {i : Nat} {x : Int × Bool} (h : log[i]? = some x) : ef l a gone q (log.drop i) = ef l a gone (q.add l a gone x) (log.drop (i + 1)) := by rw [drop_at h]; rfl
theorem ef_gz {l : Ly} {a : Int} {gone : Gone} {v : Int} {pt : Nat} : ∀ log : Log, ef l a gone (.gz v pt) log = .gz v pt
  | [] => rfl
  | x :: r => ef_gz r
theorem ef_dr {l : Ly} {a : Int} {gone : Gone} {j : Nat} (h : ¬ j < 3) : ∀ log : Log, ef l a gone (.dr j) log = .dr j
  | [] => rfl
  | x :: r => by show ef l a gone (if j < 3 then .dr (j + 1) else .dr j) r = _; rw [if_neg h]; exact ef_dr h r
theorem ef_rz {l : Ly} {a : Int} {gone : Gone} {g : Gone} : ∀ log : Log, ef l a gone (.rz g) log = .rz g
  | [] => rfl
  | x :: r => ef_rz r
/-- A slice of pairs. -/
def SlGone (w : World) (B : Nat) (A : Option Addr) (l : Gone) : Prop :=
  0 < l.length → ∃ b o, A = some ⟨b, o, none⟩ ∧ b < B ∧ ∀ k r, l[k]? = some r → w.cell? ⟨b, o + k * 2, none⟩ = some (.int .i64 r.1) ∧ w.cell? ⟨b, o + k * 2 + 1, none⟩ = some (.int .i64 r.2)
theorem SlGone.below {w w' : World} {B : Nat} {A : Option Addr} {l : Gone} (h : SlGone w B A l) (hb : Below B w w') : SlGone w' B A l := by
  intro hl
  obtain ⟨b, o, e, hbb, hc⟩ := h hl
  refine ⟨b, o, e, hbb, fun k a ha => ?_⟩
  obtain ⟨h1, h2⟩ := hc k a ha
  exact ⟨(hb.cell (p := ⟨b, _, none⟩) hbb).trans h1, (hb.cell (p := ⟨b, _, none⟩) hbb).trans h2⟩
theorem SlGone.more {w : World} {B B' : Nat} {A : Option Addr} {l : Gone} (h : SlGone w B A l) (hB : B ≤ B') : SlGone w B' A l := by
  intro hl
  obtain ⟨b, o, e, hbb, hc⟩ := h hl
  exact ⟨b, o, e, Nat.lt_of_lt_of_le hbb hB, hc⟩
/-- A slice of pairs that lies in none of these blocks. -/
def GoneAt (w : World) (bad : List Nat) (A : Option Addr) (l : Gone) : Prop :=
  0 < l.length → ∃ b o, A = some ⟨b, o, none⟩ ∧ b < w.heap.size ∧ b ∉ bad ∧ ∀ k r, l[k]? = some r → w.cell? ⟨b, o + k * 2, none⟩ = some (.int .i64 r.1) ∧ w.cell? ⟨b, o + k * 2 + 1, none⟩ = some (.int .i64 r.2)
theorem stp_cell {gp : Nat} {w w' : World} (h : Stp gp w w') {b o : Nat} {v : Value} (hb : b < w.heap.size) (hn : b ≠ gp) (hc : w.cell? ⟨b, o, none⟩ = some v) : w'.cell? ⟨b, o, none⟩ = some v := by
  rw [← hc]
  unfold World.cell?
  rw [h.block b hb hn]
theorem GoneAt.stp {w w' : World} {gp : Nat} {bad : List Nat} {A : Option Addr} {l : Gone} (h : GoneAt w bad A l) (s : Stp gp w w') (hm : gp ∈ bad) : GoneAt w' bad A l := by
  intro hl
  obtain ⟨b, o, e, hb, hn, hc⟩ := h hl
  have hne : b ≠ gp := fun e' => hn (by rw [e']; exact hm)
  exact ⟨b, o, e, Nat.lt_of_lt_of_le hb s.size, hn, fun k r hr => ⟨stp_cell s hb hne (hc k r hr).1, stp_cell s hb hne (hc k r hr).2⟩⟩
theorem GoneAt.row {w : World} {g : Nat} {cs : Array Value} {bad : List Nat} {A : Option Addr} {l : Gone} (h : GoneAt w bad A l) (hm : g ∈ bad) : GoneAt (w.setRow g cs) bad A l := by
  refine h.stp (gp := g) ⟨rfl, rfl, rfl, by simp [World.setRow], fun b _ hn => setRow_other _ g b _ hn⟩ hm
theorem GoneAt.keep {w w' : World} {bad : List Nat} {A : Option Addr} {l : Gone} (h : GoneAt w bad A l) (s : Below w.heap.size w w') : GoneAt w' bad A l := by
  intro hl
  obtain ⟨b, o, e, hb, hn, hc⟩ := h hl
  exact ⟨b, o, e, Nat.lt_of_lt_of_le hb s.size, hn, fun k r hr => ⟨(s.cell (p := ⟨b, _, none⟩) hb).trans (hc k r hr).1, (s.cell (p := ⟨b, _, none⟩) hb).trans (hc k r hr).2⟩⟩
theorem GoneAt.less {w : World} {bad bad' : List Nat} {A : Option Addr} {l : Gone} (h : GoneAt w bad A l) (hs : ∀ x ∈ bad', x ∈ bad) : GoneAt w bad' A l := by
  intro hl
  obtain ⟨b, o, e, hb, hn, hc⟩ := h hl
  exact ⟨b, o, e, hb, fun hm => hn (hs b hm), hc⟩
theorem GoneAt.new {w : World} {bad : List Nat} {A : Option Addr} {l : Gone} (h : GoneAt w bad A l) : GoneAt w (bad ++ [w.heap.size]) A l := by
  intro hl
  obtain ⟨b, o, e, hb, hn, hc⟩ := h hl
  refine ⟨b, o, e, hb, fun hm => ?_, hc⟩
  rcases List.mem_append.1 hm with h1 | h1
  · exact hn h1
  · simp at h1
    omega
/-- A slice of pairs that lies in a block of pairs. -/
def PairRow (w : World) (A : Option Addr) (l : Gone) : Prop :=
  0 < l.length → ∃ b o cs, A = some ⟨b, o, none⟩ ∧ Bk w b 51 cs ∧ ∀ k r, l[k]? = some r → w.cell? ⟨b, o + k * 2, none⟩ = some (.int .i64 r.1) ∧ w.cell? ⟨b, o + k * 2 + 1, none⟩ = some (.int .i64 r.2)
theorem bk_cell {w w' : World} {b o : Nat} {t : TypeId} {cs : Array Value} {v : Value} (k : Bk w b t cs) (k' : Bk w' b t cs) (hc : w.cell? ⟨b, o, none⟩ = some v) : w'.cell? ⟨b, o, none⟩ = some v := by
  rw [k'.cell, ← k.cell]
  exact hc
theorem PairRow.mv {w w' : World} {A : Option Addr} {l : Gone} (h : PairRow w A l) (hk : ∀ b cs, Bk w b 51 cs → Bk w' b 51 cs) : PairRow w' A l := by
  intro hl
  obtain ⟨b, o, cs, e, k, hc⟩ := h hl
  exact ⟨b, o, cs, e, hk b cs k, fun j r hr => ⟨bk_cell k (hk b cs k) (hc j r hr).1, bk_cell k (hk b cs k) (hc j r hr).2⟩⟩
theorem bk_neT {w : World} {a b : Nat} {t1 t2 : TypeId} {c1 c2 : Array Value} (h1 : Bk w a t1 c1) (h2 : Bk w b t2 c2) (hne : t1 ≠ t2) : a ≠ b := by
  rintro rfl
  rw [Bk, h2] at h1
  injection h1 with h1
  injection h1 with _ h1 _
  exact hne h1.symm
theorem PairRow.stp {w w' : World} {gp : Nat} {t : TypeId} {cs : Array Value} {A : Option Addr} {l : Gone} (h : PairRow w A l) (s : Stp gp w w') (k : Bk w gp t cs) (hn : t ≠ 51) : PairRow w' A l :=
  h.mv fun b c kb => s.keep kb (bk_neT kb k (Ne.symm hn))
theorem PairRow.keep {w w' : World} {A : Option Addr} {l : Gone} (h : PairRow w A l) (s : Below w.heap.size w w') : PairRow w' A l := h.mv fun b c kb => kb.keep s
theorem PairRow.row {w : World} {g : Nat} {cs old : Array Value} {t : TypeId} {A : Option Addr} {l : Gone} (h : PairRow w A l) (k : Bk w g t old) (hn : t ≠ 51) : PairRow (w.setRow g cs) A l :=
  h.mv fun b c kb => (setRow_other _ g b _ (bk_neT kb k (Ne.symm hn))).trans kb
theorem PairRow.set {w : World} {g i : Nat} {u : Value} {old : Array Value} {t : TypeId} {A : Option Addr} {l : Gone} (h : PairRow w A l) (k : Bk w g t old) (hn : t ≠ 51) : PairRow (w.setCell ⟨g, i, none⟩ u) A l :=
  h.stp (Stp.set w g i u) k hn
theorem PairRow.sl {w : World} {A : Option Addr} {l : Gone} (h : PairRow w A l) : SlGone w w.heap.size A l := by
  intro hl
  obtain ⟨b, o, cs, e, k, hc⟩ := h hl
  exact ⟨b, o, e, k.lt, hc⟩
theorem prog_subE {w : World} {gp : Nat} {p : Pg} {A : Option Addr} {gv : Value} {n i : Nat} (k : Bk w gp 94 (progE p A gv n i)) : ∀ (j : Nat) (v : Value), (lyC p.l)[j]? = some v → w.cell? ⟨gp, 0 + j, none⟩ = some v := by
  intro j v h
  have hj : j < 25 := (Array.getElem?_eq_some_iff.1 h).1
  rw [Nat.zero_add, k.cell j, show progE p A gv n i = lyC p.l ++ #[.int .i64 p.me, gv, .slice A n p.cap, .int .i64 (i : Nat)] from rfl, Array.getElem?_append_left hj]
  exact h
theorem PeSt.row {w : World} {B gp g : Nat} {p : Pg} {A : Option Addr} {gv : Value} {i : Nat} {log : Log} {cs : Array Value} (h : PeSt w B gp p A gv i log) (hg : gp < g) : PeSt (w.setRow g cs) B gp p A gv i log :=
  ⟨(setRow_other _ _ _ _ (by omega)).trans h.kp, h.sl.below ⟨rfl, rfl, rfl, by simp [World.setRow], fun b hb => setRow_other _ g b _ (by have := h.bp; omega)⟩, h.bp, h.le⟩
/-- A slice that is nil has nothing. -/
def NilOk (G : Option Addr) (n c : Nat) : Prop := G = none → n = 0 ∧ c = 0
/-- What a program of the eras does: it asks for an access, or tells; what is gone lies in its cell. -/
def EaPost (B gp : Nat) (p : Pg) (A : Option Addr) (log : Log) (r : AnsE) (w : World) (e : Ending) (w' : World) : Prop :=
  match r with
  | .ask k c o v => e = .panicked [{ v := askE k c o v, recovered := false }] ∧ Stp gp w w'
  | .out val is err point g => e = .returned (.agg (outC val is err point)) ∧ Stp gp w w' ∧ ∃ G n c i, n = g.length ∧ NilOk G n c ∧ PeSt w' B gp p A (.slice G n c) i log ∧ PairRow w' G g
theorem eaPost_ask {B gp : Nat} {p : Pg} {A : Option Addr} {log : Log} {r : AnsE} {k c o v : Int} {w w' : World} (hr : r = .ask k c o v) (h : Stp gp w w') : EaPost B gp p A log r w (.panicked [{ v := askE k c o v, recovered := false }]) w' := by rw [hr]; exact ⟨rfl, h⟩
theorem eaPost_out {B gp : Nat} {p : Pg} {A : Option Addr} {log : Log} {r : AnsE} {val : Int} {is : Bool} {err point : Int} {g : Gone} {G : Option Addr} {n c i : Nat} {w w' : World} (hr : r = .out val is err point g) (h : Stp gp w w') (hn : n = g.length ∧ NilOk G n c) (hp : PeSt w' B gp p A (.slice G n c) i log) (hg : PairRow w' G g) : EaPost B gp p A log r w (.returned (.agg (outC val is err point))) w' := by rw [hr]; exact ⟨rfl, h, G, n, c, i, hn.1, hn.2, hp, hg⟩
def madeE (gp : Nat) (w : World) : Nat := match w.cell? ⟨gp, 28, none⟩ with | some (.int _ z) => z.toNat | _ => 0
theorem madeE_eq {w : World} {gp : Nat} {p : Pg} {A : Option Addr} {gv : Value} {n i : Nat} (k : Bk w gp 94 (progE p A gv n i)) : madeE gp w = i := by
  have h := k.cell 28
  unfold madeE
  rw [h]
  simp
/-- How far a program is: its phase, and what it has in memory. -/
structure EaAt (B gp go : Nat) (p : Pg) (A : Option Addr) (G : Option Addr) (n c : Nat) (g : Gone) (log : Log) (w wr : World) (i : Nat) (cs : Array Value) : Prop where
  hi : i ≤ log.length
  hp : PeSt wr B gp p A (.slice G n c) i log
  st : Stp gp w wr
  ko : Bk wr go 63 cs
  ga : PairRow wr G g
theorem EaAt.keep {B gp go : Nat} {p : Pg} {A G : Option Addr} {n c : Nat} {g : Gone} {log : Log} {w wr w' : World} {i : Nat} {cs : Array Value} (h : EaAt B gp go p A G n c g log w wr i cs) (hb : Below wr.heap.size wr w') : EaAt B gp go p A G n c g log w w' i cs :=
  ⟨h.hi, h.hp.keep hb, h.st.trans (Stp.of_below gp hb), h.ko.keep hb, h.ga.keep hb⟩
theorem EaAt.drew {B gp go : Nat} {p : Pg} {A G : Option Addr} {n c : Nat} {g : Gone} {log : Log} {w wr : World} {i : Nat} {cs : Array Value} (h : EaAt B gp go p A G n c g log w wr i cs) : EaAt B gp go p A G n c g log w wr.drew i cs := h.keep (below_drew' (Below.refl _ _))
theorem EaAt.told {B gp go : Nat} {p : Pg} {A G : Option Addr} {n c : Nat} {g : Gone} {log : Log} {w wr w' : World} {i : Nat} {cs : Array Value} (h : EaAt B gp go p A G n c g log w wr i cs) (hg : go ≠ gp) (hp : PeSt w' B gp p A (.slice G n c) (i + 1) log) (hs : Stp gp wr w') (hx : i < log.length) : EaAt B gp go p A G n c g log w w' (i + 1) cs :=
  ⟨hx, hp, h.st.trans hs, hs.keep h.ko hg, h.ga.stp hs h.hp.kp (by decide)⟩
theorem lt_some {α : Type} {l : List α} {i : Nat} {x : α} (h : l[i]? = some x) : i < l.length := (List.getElem?_eq_some_iff.1 h).1
theorem eq_none {α : Type} {l : List α} {i : Nat} (h : l[i]? = none) (hi : i ≤ l.length) : i = l.length := by have := List.getElem?_eq_none_iff.1 h; omega
def GuRel (B gp go : Nat) (p : Pg) (A G : Option Addr) (n c : Nat) (a : Int) (g : Gone) (log : Log) (w : World) (q : EPh) (v7 : Value) (wr : World) : Prop :=
  ∃ i has, v7 = .int .i64 has ∧ EaAt B gp go p A G n c g log w wr i outZ ∧ q = ef p.l a g (.gu i has) (log.drop i)
set_option maxRecDepth 100000 in
set_option maxHeartbeats 4000000 in
theorem guard_any {w : World} {B gp : Nat} {p : Pg} {A G : Option Addr} {n c : Nat} {g : Gone} {log : Log} {op : Opr} (h : PeSt w B gp p A (.slice G n c) 0 log) (hn : n = g.length ∧ NilOk G n c) (hg : PairRow w G g) (f : LyFull p.l) (ha : op.a ≤ 9223372036854775807) :
    Calls Try.prog 34 #[ptr gp, .int .i64 op.a, .int .i64 op.b] w (EaPost B gp p A log ((ef p.l op.a g (.gu 0 0) log).ans p.l p.me op g) w) := by
  have HF := Lib.hid f
  have zg := h.kp.lt
  have hle := h.le
  have HN := Lib.hid hn
  have hal := below_al (Below.refl w.heap.size w) (.cells outZ 63)
  have hrel0 : EaAt B gp w.heap.size p A G n c g log w (w.alloc (.cells outZ 63)) 0 outZ := ⟨Nat.zero_le _, h.keep hal, (Stp.refl gp w).alloc _, Bk.made w 63 outZ, hg.keep hal⟩
  obtain ⟨q, hq⟩ : ∃ q, ef p.l op.a g (.gu 0 0) log = q := ⟨_, rfl⟩
  rw [hq]
  have HR := Lib.hid (And.intro hrel0 hq.symm)
  clear h f hrel0 hg hn hal hq
  go_enter Try.func34, Try.ntmps34
  go_wp2_with fail
  generalize w.alloc (.cells outZ 63) = w1 at *
  obtain ⟨go, hgo⟩ : ∃ g, w.heap.size = g := ⟨_, rfl⟩
  rw [hgo] at HR zg ⊢
  have HGO := Lib.hid hgo
  clear hgo
  go_loopw [7] (fun v7 wr => GuRel B gp go p A G n c op.a g log w q v7 wr) (fun _ wr => log.length + 1 - madeE gp wr)
  case atStart => exact ⟨0, 0, rfl, HR.out.1, HR.out.2⟩
  case round =>
    clear HR
    obtain ⟨i, has, rfl, hat, hqq⟩ := hrel
    have hmd := madeE_eq hat.hp.kp
    have HQ := Lib.hid (And.intro hqq hmd)
    clear hqq hmd
    go_upto_region 2 with fail
    go_wp2_with fail
    cases hx : log[i]? with
    | none =>
      (with_reducible refine (eload_asks op.b hat.hp (eq_none hx hat.hi)).mono ?_)
      rintro e w2 ⟨rfl, hb⟩
      exact ⟨rfl, eaPost_ask (by rw [HQ.out.1, ef_none hx]; rfl) (hat.st.trans (Stp.of_below gp hb))⟩
    | some x =>
      obtain ⟨x1, x2⟩ := x
      (with_reducible refine (eload_told op.b hat.hp hx).mono ?_)
      rintro e w2 ⟨rfl, hp2, hs2⟩
      replace hat := hat.told (by omega) hp2 hs2 (lt_some hx)
      have hq2 := HQ.out.1.trans (ef_some hx)
      have HQ2 := Lib.hid (And.intro hq2 HQ.out.2)
      have hi1 := hat.hi
      clear hx hp2 hs2 hq2 HQ
      have c28 := hat.hp.kp.cell 28
      have c11 := hat.hp.kp.cell 11
      have lg := hat.hp.kp.lt
      simp at c28 c11
      have hw1 : IntKind.i64.wrap ((i : Int) + 1 - 1) = i := by rw [IntWalk.i64_in _ (by omega)]; omega
      go_wp2_with fail
      cases hy : log[i + 1]? with
      | none =>
        (with_reducible refine (eload_asks p.l.era hat.hp (eq_none hy hat.hi)).mono ?_)
        rintro e wq ⟨rfl, hb⟩
        exact ⟨rfl, eaPost_ask (by rw [HQ2.out.1, ef_none hy]; rfl) (hat.st.trans (Stp.of_below gp hb))⟩
      | some y =>
        obtain ⟨y1, y2⟩ := y
        (with_reducible refine (eload_told p.l.era hat.hp hy).mono ?_)
        rintro e w3 ⟨rfl, hp2, hs2⟩
        replace hat := hat.told (by omega) hp2 hs2 (lt_some hy)
        have hq2 := HQ2.out.1.trans (ef_some hy)
        have hi2 := hat.hi
        clear hy hp2 hs2 c28 c11 lg hw1
        by_cases he : y1 = has
        · have e1 : (y1 == has) = true := by simpa using he
          have e2 : decide (y1 = has) = true := by simpa using he
          have hq3 : q = .gz x1 i := hq2.trans (by rw [show EPh.add p.l op.a g (y1, y2) (EPh.add p.l op.a g (x1, x2) (.gu i has)) = .gz x1 i from if_pos he]; exact ef_gz _)
          have HE := Lib.hid hq3
          clear hq2 hq3 HQ2
          go_wp2_with (refine wpList_store_rowTo rfl 63 (.tmp 6) (.tmp 31) rfl rfl go (outC x1 true 0 (i : Nat)) rfl rfl 63 outZ hat.ko (by kernel_rfl) rfl (by simp [Value.oneCell']) ?_)
          have kf := setRow_heap _ _ outZ (outC x1 true 0 (i : Nat)) 63 (0, 0) hat.ko
          have hstf : Stp gp w (w3.setRow go (outC x1 true 0 (i : Nat))) := Stp.setRow' hat.st hat.ko (by rw [HGO.out]; exact Nat.le_refl _)
          exact bodyPost_ret (v := .agg (outC x1 true 0 (i : Nat))) (results_cell_row (p := 6) (ty := 63) rfl _ _ go 63 (outC x1 true 0 (i : Nat)) (0, 0) _ rfl kf Try.underlying63 rfl (by kernel_rfl)) rfl (eaPost_out (by rw [HE.out]; rfl) hstf HN.out (hat.hp.row (by omega)) (hat.ga.row hat.ko (by decide)))
        · have e1 : (y1 == has) = false := by simpa using he
          have e2 : decide (y1 = has) = false := by simpa using he
          have hq3 : q = ef p.l op.a g (.gs (i + 2) y1) (log.drop (i + 2)) := hq2.trans (by rw [show EPh.add p.l op.a g (y1, y2) (EPh.add p.l op.a g (x1, x2) (.gu i has)) = .gs (i + 2) y1 from if_neg he])
          have HE := Lib.hid (And.intro hq3 HQ2.out.2)
          clear hq2 hq3 HQ2
          go_upto_region 7 with fail
          refine wp_region_E (S := fun w' => ∃ i', Bk w' gp 94 (progE p A (.slice G n c) log.length i')) (E := fun _ => false) (by kernel_rfl) ?_
          replace hat := hat.drew
          generalize w3.drew = w5 at *
          refine wpAnyE_take (i := 0) (oi := _) (v := .pointer (some ⟨gp, 0, none⟩)) rfl (by kernel_rfl) (by kernel_rfl) (by kernel_rfl) (by kernel_rfl) (fun _ _ _ h => h) (Or.inl ⟨by rfl, ?_⟩) ⟨_, hat.hp.kp⟩ ?_
          · intro w' hSw
            (try simp only [List.getElem_toArray, List.getElem_cons_zero])
            go_simp
          (try simp only [List.getElem_toArray, List.getElem_cons_zero, Act.put, List.setIfInBounds_toArray, List.set_cons_zero, List.set_cons_succ])
          refine wpAnyE_take (i := 1) (oi := _) (v := .pointer (some ⟨gp, 0, none⟩)) rfl (by kernel_rfl) (by kernel_rfl) (by kernel_rfl) (by kernel_rfl) (fun _ _ _ h => h) (Or.inl ⟨by rfl, ?_⟩) ⟨_, hat.hp.kp⟩ ?_
          · intro w' hSw
            (try simp only [List.getElem_toArray, List.getElem_cons_succ, List.getElem_cons_zero])
            go_simp
          (try simp only [List.getElem_toArray, List.getElem_cons_succ, List.getElem_cons_zero, Act.put, List.setIfInBounds_toArray, List.set_cons_zero, List.set_cons_succ])
          refine wpAnyE_take (i := 2) (oi := _) (v := .pointer (some ⟨gp, 0, none⟩)) rfl (by kernel_rfl) (by kernel_rfl) (by kernel_rfl) (by kernel_rfl) (fun _ _ _ h => h) (Or.inl ⟨by rfl, ?_⟩) ⟨_, hat.hp.kp⟩ ?_
          · intro w' hSw
            (try simp only [List.getElem_toArray, List.getElem_cons_succ, List.getElem_cons_zero])
            go_simp
          (try simp only [List.getElem_toArray, List.getElem_cons_succ, List.getElem_cons_zero, Act.put, List.setIfInBounds_toArray, List.set_cons_zero, List.set_cons_succ])
          refine wpAnyE_take (i := 3) (oi := _) (v := .pointer (some ⟨gp, 0, none⟩)) rfl (by kernel_rfl) (by kernel_rfl) (by kernel_rfl) (by kernel_rfl) (fun _ _ _ h => h) (Or.inl ⟨by rfl, ?_⟩) ⟨_, hat.hp.kp⟩ ?_
          · intro w' hSw
            (try simp only [List.getElem_toArray, List.getElem_cons_succ, List.getElem_cons_zero])
            go_simp
          (try simp only [List.getElem_toArray, List.getElem_cons_succ, List.getElem_cons_zero, Act.put, List.setIfInBounds_toArray, List.set_cons_zero, List.set_cons_succ])
          refine wpAnyE_take (i := 4) (oi := _) (v := .agg (lyC p.l)) rfl (by kernel_rfl) (by kernel_rfl) (by kernel_rfl) (by kernel_rfl) (fun _ _ _ h => h) (Or.inl ⟨by rfl, ?_⟩) ⟨_, hat.hp.kp⟩ ?_
          · intro w' hSw
            obtain ⟨i9, k9⟩ := hSw
            (try simp only [List.getElem_toArray, List.getElem_cons_succ, List.getElem_cons_zero])
            simp only [execOp, Instr.loadAt, Instr.sureAddr, Sem.run_bind, Sem.run_pure]
            rw [show (Act.eval _ (Operand.tmp 35)) = Value.pointer (some ⟨gp, 0, none⟩) from rfl]
            simp only [Sem.run_pure, Result.andThen_ok, run_loadVar_sub w' gp 0 40 (lyC p.l) _ (prog_subE k9) Try.underlying40 rfl (by kernel_rfl)]
          (try simp only [List.getElem_toArray, List.getElem_cons_succ, List.getElem_cons_zero, Act.put, List.setIfInBounds_toArray, List.set_cons_zero, List.set_cons_succ])
          refine wpAnyE_take (i := 5) (oi := _) (v := .pointer (some ⟨gp, 0, none⟩)) rfl (by kernel_rfl) (by kernel_rfl) (by kernel_rfl) (by kernel_rfl) (fun _ _ _ h => h) (Or.inl ⟨by rfl, ?_⟩) ⟨_, hat.hp.kp⟩ ?_
          · intro w' hSw
            (try simp only [List.getElem_toArray, List.getElem_cons_succ, List.getElem_cons_zero])
            go_simp
          (try simp only [List.getElem_toArray, List.getElem_cons_succ, List.getElem_cons_zero, Act.put, List.setIfInBounds_toArray, List.set_cons_zero, List.set_cons_succ])
          refine wpAnyE_take (i := 6) (oi := _) (v := .pointer (some ⟨gp, 0, none⟩)) rfl (by kernel_rfl) (by kernel_rfl) (by kernel_rfl) (by kernel_rfl) (fun _ _ _ h => h) (Or.inl ⟨by rfl, ?_⟩) ⟨_, hat.hp.kp⟩ ?_
          · intro w' hSw
            (try simp only [List.getElem_toArray, List.getElem_cons_succ, List.getElem_cons_zero])
            go_simp
          (try simp only [List.getElem_toArray, List.getElem_cons_succ, List.getElem_cons_zero, Act.put, List.setIfInBounds_toArray, List.set_cons_zero, List.set_cons_succ])
          refine wpAnyE_take (i := 7) (oi := _) (v := .pointer (some ⟨gp, 25, none⟩)) rfl (by kernel_rfl) (by kernel_rfl) (by kernel_rfl) (by kernel_rfl) (fun _ _ _ h => h) (Or.inl ⟨by rfl, ?_⟩) ⟨_, hat.hp.kp⟩ ?_
          · intro w' hSw
            (try simp only [List.getElem_toArray, List.getElem_cons_succ, List.getElem_cons_zero])
            go_simp
          (try simp only [List.getElem_toArray, List.getElem_cons_succ, List.getElem_cons_zero, Act.put, List.setIfInBounds_toArray, List.set_cons_zero, List.set_cons_succ])
          refine wpAnyE_take (i := 8) (oi := _) (v := .int .i64 p.me) rfl (by kernel_rfl) (by kernel_rfl) (by kernel_rfl) (by kernel_rfl) (fun _ _ _ h => h) (Or.inl ⟨by rfl, ?_⟩) ⟨_, hat.hp.kp⟩ ?_
          · intro w' hSw
            obtain ⟨i9, k9⟩ := hSw
            have s1 := k9.cell 25
            (try simp at s1)
            (try simp only [List.getElem_toArray, List.getElem_cons_succ, List.getElem_cons_zero])
            go_simp
          (try simp only [List.getElem_toArray, List.getElem_cons_succ, List.getElem_cons_zero, Act.put, List.setIfInBounds_toArray, List.set_cons_zero, List.set_cons_succ])
          refine wpAnyE_take (i := 9) (oi := _) (v := .int .i64 op.a) rfl (by kernel_rfl) (by kernel_rfl) (by kernel_rfl) (by kernel_rfl) (fun _ _ _ h => h) (Or.inl ⟨by rfl, ?_⟩) ⟨_, hat.hp.kp⟩ ?_
          · intro w' hSw
            (try simp only [List.getElem_toArray, List.getElem_cons_succ, List.getElem_cons_zero])
            go_simp
          (try simp only [List.getElem_toArray, List.getElem_cons_succ, List.getElem_cons_zero, Act.put, List.setIfInBounds_toArray, List.set_cons_zero, List.set_cons_succ])
          refine wpAnyE_take (i := 11) (oi := _) (v := .int .i64 y1) rfl (by kernel_rfl) (by kernel_rfl) (by kernel_rfl) (by kernel_rfl) (fun _ _ _ h => h) (Or.inl ⟨by rfl, ?_⟩) ⟨_, hat.hp.kp⟩ ?_
          · intro w' hSw
            (try simp only [List.getElem_toArray, List.getElem_cons_succ, List.getElem_cons_zero])
            go_simp
          (try simp only [List.getElem_toArray, List.getElem_cons_succ, List.getElem_cons_zero, Act.put, List.setIfInBounds_toArray, List.set_cons_zero, List.set_cons_succ])
          refine wpAnyE_one (i := 10) (o := _) (by kernel_rfl) rfl (fun K hK => ?_)
          (try simp only [List.getElem_toArray, List.getElem_cons_succ, List.getElem_cons_zero])
          go_simp
          (with_reducible refine (resv_any p.l p.me op.a _ HF.out).mono ?_)
          rintro e w6 ⟨rfl, hb⟩
          replace hat := hat.keep hb
          clear hb
          refine hK.out _ _ (fun _ => ⟨_, hat.hp.kp⟩) ?_
          clear hK K
          (try simp only [List.getElem_toArray, List.getElem_cons_succ, List.getElem_cons_zero, Act.put, List.setIfInBounds_toArray, List.set_cons_zero, List.set_cons_succ])
          refine wpAnyE_one (i := 12) (o := _) (by kernel_rfl) rfl (fun K hK => ?_)
          (try simp only [List.getElem_toArray, List.getElem_cons_succ, List.getElem_cons_zero])
          go_simp
          cases hz : log[i + 2]? with
          | none =>
            (with_reducible refine (estore_asks (resvAt p.l p.me op.a) y1 hat.hp (eq_none hz hat.hi)).mono ?_)
            rintro e wq ⟨rfl, hb⟩
            exact ⟨rfl, eaPost_ask (by rw [HE.out.1, ef_none hz]; rfl) (hat.st.trans (Stp.of_below gp hb))⟩
          | some z =>
            obtain ⟨z1, z2⟩ := z
            (with_reducible refine (estore_told (resvAt p.l p.me op.a) y1 hat.hp hz).mono ?_)
            rintro e w7 ⟨rfl, hp2, hs2⟩
            replace hat := hat.told (by omega) hp2 hs2 (lt_some hz)
            have hq2 := HE.out.1.trans (ef_some hz)
            have hi3 := hat.hi
            have hm1 : log.length + 1 - madeE gp w7 < log.length + 1 - madeE gp wr := by rw [madeE_eq hat.hp.kp, HE.out.2]; omega
            have HR1 := Lib.hid (And.intro (show GuRel B gp go p A G n c op.a g log w q (.int .i64 y1) w7 from ⟨i + 3, y1, rfl, hat, hq2⟩) hm1)
            clear hz hp2 hs2 hq2 HE hm1
            refine hK.out _ _ (fun _ => ⟨_, hat.hp.kp⟩) ?_
            clear hK K
            (try simp only [List.getElem_toArray, List.getElem_cons_succ, List.getElem_cons_zero, Act.put, List.setIfInBounds_toArray, List.set_cons_zero, List.set_cons_succ])
            refine wpAnyE_done (by kernel_rfl) ?_ _
            clear hat
            go_wp2_with fail
            exact HR1.out
def DrRel (B gp go : Nat) (p : Pg) (A G : Option Addr) (n c : Nat) (a : Int) (g : Gone) (log : Log) (w : World) (q : EPh) (v4 : Value) (wr : World) : Prop :=
  ∃ i, v4 = .int .i64 (i : Nat) ∧ i ≤ 3 ∧ EaAt B gp go p A G n c g log w wr i outZ ∧ q = ef p.l a g (.dr i) (log.drop i)
set_option maxRecDepth 100000 in
set_option maxHeartbeats 4000000 in
theorem drop_any {w : World} {B gp : Nat} {p : Pg} {A G : Option Addr} {n c : Nat} {g : Gone} {log : Log} {op : Opr} (h : PeSt w B gp p A (.slice G n c) 0 log) (hn : n = g.length ∧ NilOk G n c) (hg : PairRow w G g) (f : LyFull p.l) :
    Calls Try.prog 35 #[ptr gp] w (EaPost B gp p A log ((ef p.l op.a g (.dr 0) log).ans p.l p.me op g) w) := by
  have HF := Lib.hid f
  have zg := h.kp.lt
  have hle := h.le
  have HN := Lib.hid hn
  have hal := below_al (Below.refl w.heap.size w) (.cells outZ 63)
  have hrel0 : EaAt B gp w.heap.size p A G n c g log w (w.alloc (.cells outZ 63)) 0 outZ := ⟨Nat.zero_le _, h.keep hal, (Stp.refl gp w).alloc _, Bk.made w 63 outZ, hg.keep hal⟩
  obtain ⟨q, hq⟩ : ∃ q, ef p.l op.a g (.dr 0) log = q := ⟨_, rfl⟩
  rw [hq]
  have HR := Lib.hid (And.intro hrel0 hq.symm)
  clear h f hrel0 hg hn hal hq
  go_enter Try.func35, Try.ntmps35
  go_wp2_with fail
  generalize w.alloc (.cells outZ 63) = w1 at *
  obtain ⟨go, hgo⟩ : ∃ g, w.heap.size = g := ⟨_, rfl⟩
  rw [hgo] at HR zg ⊢
  have HGO := Lib.hid hgo
  clear hgo
  go_loopw [4] (fun v4 wr => DrRel B gp go p A G n c op.a g log w q v4 wr) (fun v4 _ => 3 - (intOf v4).toNat)
  case atStart => exact ⟨0, rfl, by omega, HR.out.1, HR.out.2⟩
  case round =>
    clear HR
    obtain ⟨i, rfl, hi3, hat, hqq⟩ := hrel
    have HQ := Lib.hid hqq
    clear hqq
    by_cases hlt : i < 3
    · have hd : decide ((i : Int) < 3) = true := by simp; omega
      have hd2 : (i : Int) < 3 := by omega
      go_upto_region 4 with fail
      refine wp_region_E (S := fun w' => ∃ i', Bk w' gp 94 (progE p A (.slice G n c) log.length i')) (E := fun _ => false) (by kernel_rfl) ?_
      replace hat := hat.drew
      generalize wr.drew = w5 at *
      refine wpAnyE_take (i := 0) (oi := _) (v := .pointer (some ⟨gp, 0, none⟩)) rfl (by kernel_rfl) (by kernel_rfl) (by kernel_rfl) (by kernel_rfl) (fun _ _ _ h => h) (Or.inl ⟨by rfl, ?_⟩) ⟨_, hat.hp.kp⟩ ?_
      · intro w' hSw
        (try simp only [List.getElem_toArray, List.getElem_cons_zero])
        go_simp
      (try simp only [List.getElem_toArray, List.getElem_cons_zero, Act.put, List.setIfInBounds_toArray, List.set_cons_zero, List.set_cons_succ])
      refine wpAnyE_take (i := 1) (oi := _) (v := .pointer (some ⟨gp, 0, none⟩)) rfl (by kernel_rfl) (by kernel_rfl) (by kernel_rfl) (by kernel_rfl) (fun _ _ _ h => h) (Or.inl ⟨by rfl, ?_⟩) ⟨_, hat.hp.kp⟩ ?_
      · intro w' hSw
        (try simp only [List.getElem_toArray, List.getElem_cons_succ, List.getElem_cons_zero])
        go_simp
      (try simp only [List.getElem_toArray, List.getElem_cons_succ, List.getElem_cons_zero, Act.put, List.setIfInBounds_toArray, List.set_cons_zero, List.set_cons_succ])
      refine wpAnyE_take (i := 2) (oi := _) (v := .pointer (some ⟨gp, 0, none⟩)) rfl (by kernel_rfl) (by kernel_rfl) (by kernel_rfl) (by kernel_rfl) (fun _ _ _ h => h) (Or.inl ⟨by rfl, ?_⟩) ⟨_, hat.hp.kp⟩ ?_
      · intro w' hSw
        (try simp only [List.getElem_toArray, List.getElem_cons_succ, List.getElem_cons_zero])
        go_simp
      (try simp only [List.getElem_toArray, List.getElem_cons_succ, List.getElem_cons_zero, Act.put, List.setIfInBounds_toArray, List.set_cons_zero, List.set_cons_succ])
      refine wpAnyE_take (i := 3) (oi := _) (v := .pointer (some ⟨gp, 0, none⟩)) rfl (by kernel_rfl) (by kernel_rfl) (by kernel_rfl) (by kernel_rfl) (fun _ _ _ h => h) (Or.inl ⟨by rfl, ?_⟩) ⟨_, hat.hp.kp⟩ ?_
      · intro w' hSw
        (try simp only [List.getElem_toArray, List.getElem_cons_succ, List.getElem_cons_zero])
        go_simp
      (try simp only [List.getElem_toArray, List.getElem_cons_succ, List.getElem_cons_zero, Act.put, List.setIfInBounds_toArray, List.set_cons_zero, List.set_cons_succ])
      refine wpAnyE_take (i := 4) (oi := _) (v := .agg (lyC p.l)) rfl (by kernel_rfl) (by kernel_rfl) (by kernel_rfl) (by kernel_rfl) (fun _ _ _ h => h) (Or.inl ⟨by rfl, ?_⟩) ⟨_, hat.hp.kp⟩ ?_
      · intro w' hSw
        obtain ⟨i9, k9⟩ := hSw
        (try simp only [List.getElem_toArray, List.getElem_cons_succ, List.getElem_cons_zero])
        simp only [execOp, Instr.loadAt, Instr.sureAddr, Sem.run_bind, Sem.run_pure]
        rw [show (Act.eval _ (Operand.tmp 10)) = Value.pointer (some ⟨gp, 0, none⟩) from rfl]
        simp only [Sem.run_pure, Result.andThen_ok, run_loadVar_sub w' gp 0 40 (lyC p.l) _ (prog_subE k9) Try.underlying40 rfl (by kernel_rfl)]
      (try simp only [List.getElem_toArray, List.getElem_cons_succ, List.getElem_cons_zero, Act.put, List.setIfInBounds_toArray, List.set_cons_zero, List.set_cons_succ])
      refine wpAnyE_take (i := 5) (oi := _) (v := .pointer (some ⟨gp, 0, none⟩)) rfl (by kernel_rfl) (by kernel_rfl) (by kernel_rfl) (by kernel_rfl) (fun _ _ _ h => h) (Or.inl ⟨by rfl, ?_⟩) ⟨_, hat.hp.kp⟩ ?_
      · intro w' hSw
        (try simp only [List.getElem_toArray, List.getElem_cons_succ, List.getElem_cons_zero])
        go_simp
      (try simp only [List.getElem_toArray, List.getElem_cons_succ, List.getElem_cons_zero, Act.put, List.setIfInBounds_toArray, List.set_cons_zero, List.set_cons_succ])
      refine wpAnyE_take (i := 6) (oi := _) (v := .pointer (some ⟨gp, 0, none⟩)) rfl (by kernel_rfl) (by kernel_rfl) (by kernel_rfl) (by kernel_rfl) (fun _ _ _ h => h) (Or.inl ⟨by rfl, ?_⟩) ⟨_, hat.hp.kp⟩ ?_
      · intro w' hSw
        (try simp only [List.getElem_toArray, List.getElem_cons_succ, List.getElem_cons_zero])
        go_simp
      (try simp only [List.getElem_toArray, List.getElem_cons_succ, List.getElem_cons_zero, Act.put, List.setIfInBounds_toArray, List.set_cons_zero, List.set_cons_succ])
      refine wpAnyE_take (i := 7) (oi := _) (v := .pointer (some ⟨gp, 25, none⟩)) rfl (by kernel_rfl) (by kernel_rfl) (by kernel_rfl) (by kernel_rfl) (fun _ _ _ h => h) (Or.inl ⟨by rfl, ?_⟩) ⟨_, hat.hp.kp⟩ ?_
      · intro w' hSw
        (try simp only [List.getElem_toArray, List.getElem_cons_succ, List.getElem_cons_zero])
        go_simp
      (try simp only [List.getElem_toArray, List.getElem_cons_succ, List.getElem_cons_zero, Act.put, List.setIfInBounds_toArray, List.set_cons_zero, List.set_cons_succ])
      refine wpAnyE_take (i := 8) (oi := _) (v := .int .i64 p.me) rfl (by kernel_rfl) (by kernel_rfl) (by kernel_rfl) (by kernel_rfl) (fun _ _ _ h => h) (Or.inl ⟨by rfl, ?_⟩) ⟨_, hat.hp.kp⟩ ?_
      · intro w' hSw
        obtain ⟨i9, k9⟩ := hSw
        have s1 := k9.cell 25
        (try simp at s1)
        (try simp only [List.getElem_toArray, List.getElem_cons_succ, List.getElem_cons_zero])
        go_simp
      (try simp only [List.getElem_toArray, List.getElem_cons_succ, List.getElem_cons_zero, Act.put, List.setIfInBounds_toArray, List.set_cons_zero, List.set_cons_succ])
      refine wpAnyE_take (i := 9) (oi := _) (v := .int .i64 (i : Nat)) rfl (by kernel_rfl) (by kernel_rfl) (by kernel_rfl) (by kernel_rfl) (fun _ _ _ h => h) (Or.inl ⟨by rfl, ?_⟩) ⟨_, hat.hp.kp⟩ ?_
      · intro w' hSw
        (try simp only [List.getElem_toArray, List.getElem_cons_succ, List.getElem_cons_zero])
        go_simp
      (try simp only [List.getElem_toArray, List.getElem_cons_succ, List.getElem_cons_zero, Act.put, List.setIfInBounds_toArray, List.set_cons_zero, List.set_cons_succ])
      refine wpAnyE_one (i := 10) (o := _) (by kernel_rfl) rfl (fun K hK => ?_)
      (try simp only [List.getElem_toArray, List.getElem_cons_succ, List.getElem_cons_zero])
      go_simp
      (with_reducible refine (resv_any p.l p.me (i : Nat) _ HF.out).mono ?_)
      rintro e w6 ⟨rfl, hb⟩
      replace hat := hat.keep hb
      clear hb
      refine hK.out _ _ (fun _ => ⟨_, hat.hp.kp⟩) ?_
      clear hK K
      (try simp only [List.getElem_toArray, List.getElem_cons_succ, List.getElem_cons_zero, Act.put, List.setIfInBounds_toArray, List.set_cons_zero, List.set_cons_succ])
      refine wpAnyE_one (i := 11) (o := _) (by kernel_rfl) rfl (fun K hK => ?_)
      (try simp only [List.getElem_toArray, List.getElem_cons_succ, List.getElem_cons_zero])
      go_simp
      cases hz : log[i]? with
      | none =>
        (with_reducible refine (estore_asks (resvAt p.l p.me (i : Nat)) 0 hat.hp (eq_none hz hat.hi)).mono ?_)
        rintro e wq ⟨rfl, hb⟩
        exact ⟨rfl, eaPost_ask (by rw [HQ.out, ef_none hz]; exact if_pos hlt) (hat.st.trans (Stp.of_below gp hb))⟩
      | some z =>
        obtain ⟨z1, z2⟩ := z
        (with_reducible refine (estore_told (resvAt p.l p.me (i : Nat)) 0 hat.hp hz).mono ?_)
        rintro e w7 ⟨rfl, hp2, hs2⟩
        replace hat := hat.told (by omega) hp2 hs2 (lt_some hz)
        have hq2 : q = ef p.l op.a g (.dr (i + 1)) (log.drop (i + 1)) := (HQ.out.trans (ef_some hz)).trans (by rw [show EPh.add p.l op.a g (z1, z2) (.dr i) = .dr (i + 1) from if_pos hlt])
        have HR1 := Lib.hid (show DrRel B gp go p A G n c op.a g log w q (.int .i64 ((i + 1 : Nat) : Int)) w7 from ⟨i + 1, rfl, by omega, hat, hq2⟩)
        clear hz hp2 hs2 hq2 HQ hd
        refine hK.out _ _ (fun _ => ⟨_, hat.hp.kp⟩) ?_
        clear hK K
        (try simp only [List.getElem_toArray, List.getElem_cons_succ, List.getElem_cons_zero, Act.put, List.setIfInBounds_toArray, List.set_cons_zero, List.set_cons_succ])
        refine wpAnyE_done (by kernel_rfl) ?_ _
        clear hat
        go_wp2_with fail
        go_roundw
        case rel => exact HR1.out
        case measure => simp [intOf]; omega
    · have hi : i = 3 := by omega
      subst hi
      have hd : decide (((3 : Nat) : Int) < 3) = false := by decide
      have hq3 : q = .dr 3 := HQ.out.trans (ef_dr (by omega) _)
      have HE := Lib.hid hq3
      clear hq3 HQ
      have c28 := hat.hp.kp.cell 28
      have lg := hat.hp.kp.lt
      simp at c28
      go_wp2_with (refine wpList_store_rowTo rfl 63 (.tmp 2) (.tmp 25) rfl rfl go (outC 0 true 0 2) rfl rfl 63 outZ hat.ko (by kernel_rfl) rfl (by simp [Value.oneCell']) ?_)
      have kf := setRow_heap _ _ outZ (outC 0 true 0 2) 63 (0, 0) hat.ko
      have hstf : Stp gp w (wr.setRow go (outC 0 true 0 2)) := Stp.setRow' hat.st hat.ko (by rw [HGO.out]; exact Nat.le_refl _)
      exact bodyPost_ret (v := .agg (outC 0 true 0 2)) (results_cell_row (p := 2) (ty := 63) rfl _ _ go 63 (outC 0 true 0 2) (0, 0) _ rfl kf Try.underlying63 rfl (by kernel_rfl)) rfl (eaPost_out (by rw [HE.out]; rfl) hstf HN.out (hat.hp.row (by omega)) (hat.ga.row hat.ko (by decide)))
end Go.Proofs.Ytgjdjgainjedhaa
