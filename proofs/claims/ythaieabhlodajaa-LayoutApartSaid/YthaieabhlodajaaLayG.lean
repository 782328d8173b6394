/- layout.For. -/
import Derived.Test.YthaieabhlodajaaLayF
namespace Go.Proofs.Ythaieabhlodajaa
open Go.RowKit
attribute [local go_sem ↓] Go.wp_at_zero Go.wp_at_succ

/-- A use, as its cells. -/
structure Us where
  strand : Int
  tA : Option Addr
  tn : Nat
  tc : Nat
  thing : Int
  obj : Int
  kind : Int
  obj2 : Int
  a : Int
  b : Int
  val : Int
  ok : Bool
abbrev usC (u : Us) : Array Value := #[.int .i64 u.strand, .slice u.tA u.tn u.tc, .int .i64 u.thing, .int .i64 u.obj, .int .i64 u.kind, .int .i64 u.obj2, .int .i64 u.a, .int .i64 u.b, .int .i64 u.val, .bool u.ok]
def Us.isPut (u : Us) : Bool := u.thing == 1 && u.kind == 2
def Us.isOther (u : Us) : Bool := (u.thing == 2 && u.kind == 4) || (u.thing == 3 && u.kind == 6)
/-- A slice of uses. -/
def SlUse (w : World) (B : Nat) (A : Option Addr) (l : List Us) : Prop :=
  0 < l.length → ∃ b o, A = some ⟨b, o, none⟩ ∧ b < B ∧ ∀ k u, l[k]? = some u → ∀ j v, (usC u)[j]? = some v → w.cell? ⟨b, o + k * 10 + j, none⟩ = some v
theorem SlUse.below {w w' : World} {B : Nat} {A : Option Addr} {l : List Us} (h : SlUse w B A l) (hb : Below B w w') : SlUse w' B A l := by
  intro hl
  obtain ⟨b, o, e, hbb, hc⟩ := h hl
  exact ⟨b, o, e, hbb, fun k u hu j v hv => (hb.cell (p := ⟨b, _, none⟩) hbb).trans (hc k u hu j v hv)⟩
theorem SlUse.more {w : World} {B B' : Nat} {A : Option Addr} {l : List Us} (h : SlUse w B A l) (hB : B ≤ B') : SlUse w B' A l := by
  intro hl
  obtain ⟨b, o, e, hbb, hc⟩ := h hl
  exact ⟨b, o, e, Nat.lt_of_lt_of_le hbb hB, hc⟩
theorem SlUse.keepb {w w' : World} {A : Option Addr} {l : List Us} (h : SlUse w w.heap.size A l) (hb : Below w.heap.size w w') : SlUse w' w'.heap.size A l := (h.below hb).more hb.size

structure Cd where
  fA : Option Addr
  fn : Nat
  fc : Nat
  cA : Option Addr
  cn : Nat
  cc : Nat
  maps : Int
  stacks : Int
  chans : Int
  main : Int
abbrev cdC (c : Cd) : Array Value := #[.slice c.fA c.fn c.fc, .slice c.cA c.cn c.cc, .int .i64 c.maps, .int .i64 c.stacks, .int .i64 c.chans, .int .i64 c.main]
structure El where
  err : Int
  value : Int
  cA : Option Addr
  cn : Nat
  cc : Nat
  mA : Option Addr
  mn : Nat
  mc : Nat
  sA : Option Addr
  sn : Nat
  sc : Nat
  hA : Option Addr
  hn : Nat
  hc : Nat
  pA : Option Addr
  pn : Nat
  pc : Nat
  steps : Int
  tasks : Int
  xA : Option Addr
  xn : Nat
  xc : Nat
abbrev elC (e : El) (U : Option Addr) (n c : Nat) : Array Value := #[.int .i64 e.err, .int .i64 e.value, .slice e.cA e.cn e.cc, .slice e.mA e.mn e.mc, .slice e.sA e.sn e.sc, .slice e.hA e.hn e.hc, .slice U n c, .slice e.pA e.pn e.pc, .int .i64 e.steps, .int .i64 e.tasks, .slice e.xA e.xn e.xc]

def putsN (l : List Us) : Int := (l.countP Us.isPut : Nat)
def othersN (l : List Us) : Int := (l.countP Us.isOther : Nat)
def bucketsN (maps p : Int) : Int := if maps = 0 ∨ p ≤ 2 then 1 else if p ≤ 4 then 2 else if p ≤ 8 then 4 else if p ≤ 16 then 8 else if p ≤ 32 then 16 else if p ≤ 64 then 32 else 64
/-- The conf without its nodes. -/
def forC (c : Cd) (e : El) (l : List Us) (s : Int) : Cf := ⟨s, 0, bucketsN c.maps (putsN l), s / 2 + s % 2, max e.tasks 1, c.cn, c.maps, c.stacks, c.chans⟩
def forN (c : Cd) (l : List Us) (s : Int) : Int := 4 + bucketsN c.maps (putsN l) * c.maps + c.chans + putsN l + othersN l + 8 * s
abbrev zeroCf : Cf := ⟨0, 0, 0, 0, 0, 0, 0, 0, 0⟩
def ForPost (c : Cf) (er : Int) (w : World) (e : Ending) (w' : World) : Prop := e = .returned (.tuple #[cfV c, .int .i64 er]) ∧ Below w.heap.size w w'

def UseRel (w0 : World) (l : List Us) (c : Cd) (el : El) (U : Option Addr) (uc g : Nat) (p o i : Value) (wr : World) : Prop :=
  ∃ k : Nat, k ≤ l.length ∧ i = .int .i64 k ∧ p = .int .i64 (putsN (l.take k)) ∧ o = .int .i64 (othersN (l.take k)) ∧ Below w0.heap.size w0 wr ∧ Bk wr g 35 (cdC c) ∧ Bk wr (g + 1) 41 (elC el U l.length uc) ∧ Bk wr (g + 1 + 1) 23 (cfC zeroCf)
theorem putsN_bd (l : List Us) (k : Nat) : 0 ≤ putsN (l.take k) ∧ putsN (l.take k) ≤ k := by
  unfold putsN
  have := List.countP_le_length (p := Us.isPut) (l := l.take k)
  have : (l.take k).length ≤ k := List.length_take_le _ _
  omega
theorem othersN_bd (l : List Us) (k : Nat) : 0 ≤ othersN (l.take k) ∧ othersN (l.take k) ≤ k := by
  unfold othersN
  have := List.countP_le_length (p := Us.isOther) (l := l.take k)
  have : (l.take k).length ≤ k := List.length_take_le _ _
  omega
theorem count_step (l : List Us) (k : Nat) (u : Us) (h : l[k]? = some u) : putsN (l.take (k + 1)) = putsN (l.take k) + (if u.isPut = true then 1 else 0) ∧ othersN (l.take (k + 1)) = othersN (l.take k) + (if u.isOther = true then 1 else 0) := by
  have e : l.take (k + 1) = l.take k ++ [u] := by rw [List.take_add_one, h]; rfl
  unfold putsN othersN
  rw [e, List.countP_append, List.countP_append]
  constructor
  · by_cases hu : u.isPut = true <;> simp [hu]
  · by_cases hu : u.isOther = true <;> simp [hu]

theorem use_cases (u : Us) : (u.isPut = true ∧ u.isOther = false ∧ (u.thing == 1) = true ∧ (u.kind == 2) = true) ∨
    (u.isPut = false ∧ u.isOther = false ∧ (u.thing == 1) = true ∧ (u.kind == 2) = false ∧ (u.thing == 2) = false ∧ (u.thing == 3) = false) ∨
    (u.isPut = false ∧ u.isOther = true ∧ (u.thing == 1) = false ∧ (u.thing == 2) = true ∧ (u.kind == 4) = true) ∨
    (u.isPut = false ∧ u.isOther = false ∧ (u.thing == 1) = false ∧ (u.thing == 2) = true ∧ (u.kind == 4) = false ∧ (u.thing == 3) = false) ∨
    (u.isPut = false ∧ u.isOther = true ∧ (u.thing == 1) = false ∧ (u.thing == 2) = false ∧ (u.thing == 3) = true ∧ (u.kind == 6) = true) ∨
    (u.isPut = false ∧ u.isOther = false ∧ (u.thing == 1) = false ∧ (u.thing == 2) = false ∧ (u.thing == 3) = true ∧ (u.kind == 6) = false) ∨
    (u.isPut = false ∧ u.isOther = false ∧ (u.thing == 1) = false ∧ (u.thing == 2) = false ∧ (u.thing == 3) = false) := by
  unfold Us.isPut Us.isOther
  by_cases h1 : u.thing = 1
  · by_cases h : u.kind = 2 <;> simp [h1, h]
  · by_cases h2 : u.thing = 2
    · by_cases h : u.kind = 4 <;> simp [h2, h]
    · by_cases h3 : u.thing = 3
      · by_cases h : u.kind = 6 <;> simp [h3, h]
      · simp [h1, h2, h3]
def BkRel (maps p : Int) (v : Value) : Prop := ∃ b : Int, v = .int .i64 b ∧ (b = 1 ∨ b = 2 ∨ b = 4 ∨ b = 8 ∨ b = 16 ∨ b = 32 ∨ b = 64) ∧ (b = 1 ∨ (maps ≠ 0 ∧ b < p))
theorem bk_end (maps p b : Int) (h : b = 1 ∨ b = 2 ∨ b = 4 ∨ b = 8 ∨ b = 16 ∨ b = 32 ∨ b = 64) (h1 : b = 1 ∨ (maps ≠ 0 ∧ b < p)) (h2 : ¬ (maps ≠ 0 ∧ 2 * b < p ∧ b < 64)) : b = bucketsN maps p := by
  unfold bucketsN
  by_cases h0 : maps = 0
  · rw [if_pos (.inl h0)]; omega
  · by_cases hp : p ≤ 2
    · rw [if_pos (.inr hp)]; omega
    · rw [if_neg (by omega)]
      repeat' split
      all_goals omega

def ForHead (w : World) (l : List Us) (c : Cd) (el : El) (U : Option Addr) (uc : Nat) (p o : Value) (wr : World) : Prop :=
  p = .int .i64 (putsN l) ∧ o = .int .i64 (othersN l) ∧ Below w.heap.size w wr ∧ Bk wr w.heap.size 35 (cdC c) ∧ Bk wr (w.heap.size + 1) 41 (elC el U l.length uc) ∧ Bk wr (w.heap.size + 1 + 1) 23 (cfC zeroCf)

set_option maxRecDepth 100000 in
set_option maxHeartbeats 8000000 in
theorem for_any (c : Cd) (el : El) (U : Option Addr) (uc : Nat) (l : List Us) (s : Int) (w : World) (hl : SlUse w w.heap.size U l) (hm : l.length ≤ 100000) (hs : 0 ≤ s) (hs1 : s ≤ 1000) (_hcn : c.cn ≤ 1000000) (R : Ending → World → Prop)
    (hbad : ¬ (forC c el l s).may → ∀ w', Below w.heap.size w w' → R (.returned (.tuple #[cfV zeroCf, .int .i64 1])) w')
    (hfull : (forC c el l s).may → 1000 < forN c l s → ∀ w', Below w.heap.size w w' → R (.returned (.tuple #[cfV zeroCf, .int .i64 8])) w')
    (hok : (forC c el l s).may → ¬ 1000 < forN c l s → ∀ w', Below w.heap.size w w' → R (.returned (.tuple #[cfV { forC c el l s with nodes := forN c l s }, .int .i64 0])) w') :
    Calls Try.prog 12 #[.agg (cdC c), .agg (elC el U l.length uc), .int .i64 s] w R := by
  have HR := Lib.hid (And.intro hbad (And.intro hfull hok))
  have HU := Lib.hid hl
  clear hbad hfull hok hl
  go_enter Try.func12, Try.ntmps12
  go_wp2_with fail
  go_loopw [8, 9, 11, 17, 18, 19, 20, 21, 22, 23, 24, 25, 26, 27, 28, 29, 30, 31, 32, 33, 34, 35, 36, 37, 38, 39, 40, 41, 42, 43, 44, 45, 46, 47, 48, 49, 50, 51, 52, 53, 54, 55, 56, 57] (fun p o _ i _ _ _ _ _ _ _ _ _ _ _ _ _ _ _ _ _ _ _ _ _ _ _ _ _ _ _ _ _ _ _ _ _ _ _ _ _ _ _ _ wr => UseRel w l c el U uc w.heap.size p o i wr) (fun p o _ i _ _ _ _ _ _ _ _ _ _ _ _ _ _ _ _ _ _ _ _ _ _ _ _ _ _ _ _ _ _ _ _ _ _ _ _ _ _ _ _ _ => l.length - (intOf i).toNat)
  case atStart => exact ⟨0, Nat.zero_le _, rfl, rfl, rfl, below_al (below_al (below_al (Below.refl _ _) _) _) _, ((Bk.made w _ _).alloc _).alloc _, (Bk.new _ (by simp) _ _).alloc _, Bk.new _ (by simp) _ _⟩
  case round =>
    obtain ⟨k, hk, rfl, rfl, rfl, hbl, k0, k1, k2⟩ := hrel
    have pb := putsN_bd l k
    have ob := othersN_bd l k
    by_cases hlt : k < l.length
    · obtain ⟨b, o, hB, hbb, hcc⟩ := (HU.out.below hbl) (by omega)
      subst hB
      obtain ⟨u, hu⟩ : ∃ u, l[k]? = some u := ⟨_, List.getElem?_eq_getElem hlt⟩
      have hst := count_step l k u hu
      have d0 := hcc k u hu 0 _ rfl
      have d1 := hcc k u hu 1 _ rfl
      have d2 := hcc k u hu 2 _ rfl
      have d3 := hcc k u hu 3 _ rfl
      have d4 := hcc k u hu 4 _ rfl
      have d5 := hcc k u hu 5 _ rfl
      have d6 := hcc k u hu 6 _ rfl
      have d7 := hcc k u hu 7 _ rfl
      have d8 := hcc k u hu 8 _ rfl
      have d9 := hcc k u hu 9 _ rfl
      rw [Nat.add_zero] at d0
      have i1 : (k : Int) < l.length := by omega
      have hb2 : b < wr.heap.size := Nat.lt_of_lt_of_le hbb hbl.size
      have HX := Lib.hid (And.intro hbl (And.intro k0 (And.intro k1 k2)))
      clear hcc hu hbl k0 k1 k2
      rcases use_cases u with ⟨e1, e2, g1, g2⟩ | ⟨e1, e2, g1, g2, g3, g4⟩ | ⟨e1, e2, g1, g2, g3⟩ | ⟨e1, e2, g1, g2, g3, g4⟩ | ⟨e1, e2, g1, g2, g3, g4⟩ | ⟨e1, e2, g1, g2, g3, g4⟩ | ⟨e1, e2, g1, g2, g3⟩
      all_goals
        rw [e1, e2] at hst
        simp only [if_true, Bool.false_eq_true, if_false, Int.add_zero] at hst
        have HST := Lib.hid hst
        clear hst e1 e2
        generalize putsN (l.take k) = p at *
        generalize othersN (l.take k) = q at *
        go_wp2_with (refine wpList_store_new rfl 45 (.tmp 11) (.tmp 20) rfl rfl wr.heap.size _ _ (usC u) rfl rfl rfl rfl (by kernel_rfl) rfl (by simp [Value.oneCell']) ?_)
        go_roundw
        case rel => exact ⟨k + 1, by omega, by go_num, by rw [HST.out.1], by rw [HST.out.2], below_al HX.out.1 _, HX.out.2.1.alloc _, HX.out.2.2.1.alloc _, HX.out.2.2.2.alloc _⟩
        case measure => simp [intOf]; omega
    · obtain rfl : k = l.length := by omega
      rw [List.take_length] at pb ob ⊢
      have HB := Lib.hid hbl
      have HK := Lib.hid k2
      have q1 := k0.cell 1
      have q2 := k0.cell 2
      have q3 := k0.cell 3
      have q4 := k0.cell 4
      have q9 := k1.cell 9
      simp at q1 q2 q3 q4 q9
      have hsz := hbl.size
      have l0 := k0.lt
      have l1 := k1.lt
      have l2 := k2.lt
      clear hbl k2 k0 k1
      have HP : Hid (bucketsN c.maps (putsN l) = bucketsN c.maps (putsN l)) := Lib.hid rfl
      generalize hpv : putsN l = p at *
      generalize hov : othersN l = q at *
      have HPV := Lib.hid (And.intro hpv hov)
      clear hpv hov HP
      have hg : decide ((l.length : Int) < l.length) = false := by simp
      go_wp2_with fail
      go_loop [12, 58, 59, 60, 61, 62, 63, 64, 65, 66, 67, 68, 69, 70, 71, 72] (fun v _ _ _ _ _ _ _ _ _ _ _ _ _ _ _ => BkRel c.maps p v) (fun v _ _ _ _ _ _ _ _ _ _ _ _ _ _ _ => 64 - (intOf v).toNat)
      case atStart => exact ⟨1, rfl, .inl rfl, .inl rfl⟩
      case round =>
        obtain ⟨bk, rfl, hpow, hreach⟩ := hrel
        by_cases hgo : c.maps ≠ 0 ∧ 2 * bk < p ∧ bk < 64
        · have g1 : (c.maps != 0) = true := by simp [hgo.1]
          have g2 : decide (2 * bk < p) = true := by simp [hgo.2.1]
          have g3 : decide (bk < 64) = true := by simp [hgo.2.2]
          have HG := Lib.hid (And.intro hgo (And.intro hpow hreach))
          have hb0 : 1 ≤ bk := by omega
          have hb64 : bk < 64 := hgo.2.2
          clear hgo hpow hreach
          go_wp2
          go_round
          case rel =>
            obtain ⟨⟨h1, h2, h3⟩, h4, h5⟩ := HG.out
            refine ⟨bk * 2, rfl, ?_, .inr ⟨h1, ?_⟩⟩
            · clear h5; omega
            · omega
          case measure =>
            show 64 - (bk * 2).toNat < 64 - bk.toNat
            omega
        · have hbk : bk = bucketsN c.maps p := bk_end c.maps p bk hpow hreach hgo
          have HBK := Lib.hid hbk
          have hb0 : 1 ≤ bk ∧ bk ≤ 64 := by omega
          have hcase : ((c.maps != 0) = false ∧ True ∧ True) ∨ ((c.maps != 0) = true ∧ decide (2 * bk < p) = false ∧ True) ∨ ((c.maps != 0) = true ∧ decide (2 * bk < p) = true ∧ decide (bk < 64) = false) := by
            by_cases h0 : c.maps = 0
            · exact .inl ⟨by simp [h0], trivial, trivial⟩
            · by_cases h1 : 2 * bk < p
              · exact .inr (.inr ⟨by simp [h0], by simp [h1], by simp; omega⟩)
              · exact .inr (.inl ⟨by simp [h0], by simp; omega, trivial⟩)
          clear hbk hpow hreach hgo
          have m0 : 0 ≤ s / 2 := by omega
          have m1 : 0 ≤ s % 2 := by omega
          have hT : ∃ T, max el.tasks 1 = T ∧ (1 ≤ el.tasks ∧ T = el.tasks ∨ el.tasks < 1 ∧ T = 1) := by
            refine ⟨_, rfl, ?_⟩
            by_cases h : 1 ≤ el.tasks
            · exact .inl ⟨h, by omega⟩
            · exact .inr ⟨by omega, by omega⟩
          obtain ⟨T, hT0, hT1⟩ := hT
          have hfc : forC c el l s = ⟨s, 0, bk, s / 2 + s % 2, T, c.cn, c.maps, c.stacks, c.chans⟩ := by unfold forC; rw [HPV.out.1, ← HBK.out, hT0]
          have hfn : forN c l s = 4 + bk * c.maps + c.chans + p + q + 8 * s := by unfold forN; rw [HPV.out.1, HPV.out.2, ← HBK.out]
          rw [hfc, hfn] at HR
          clear hT0 hfc hfn HPV HBK
          have HR' := HR
          clear HR
          rcases hT1 with ⟨ht, rfl⟩ | ⟨ht, rfl⟩ <;> rcases hcase with ⟨g1, g2, g3⟩ | ⟨g1, g2, g3⟩ | ⟨g1, g2, g3⟩
          all_goals
            go_wp2_with fail
            (with_reducible refine (bounded_any ⟨s, 0, bk, s / 2 + s % 2, _, c.cn, c.maps, c.stacks, c.chans⟩ _).mono ?_)
            rintro e w2 ⟨bb, rfl, hbb, hb⟩
            have kc := (Bk.made wr 23 (cfC ⟨s, 0, bk, s / 2 + s % 2, _, c.cn, c.maps, c.stacks, c.chans⟩)).keep hb
            have kz := (HK.out.alloc (.cells (cfC ⟨s, 0, bk, s / 2 + s % 2, _, c.cn, c.maps, c.stacks, c.chans⟩) 23)).keep hb
            have hbl := below_tr (below_al HB.out (.cells (cfC ⟨s, 0, bk, s / 2 + s % 2, _, c.cn, c.maps, c.stacks, c.chans⟩) 23)) hb
            have e2 : w2.cell? ⟨w.heap.size, 2, none⟩ = some (.int .i64 c.maps) := by
              rw [bcellA hb (by simp; omega)]
              simpa [World.cell?_alloc_lt, l0] using q2
            have e4 : w2.cell? ⟨w.heap.size, 4, none⟩ = some (.int .i64 c.chans) := by
              rw [bcellA hb (by simp; omega)]
              simpa [World.cell?_alloc_lt, l0] using q4
            clear q1 q2 q3 q4 q9 hb
            cases bb
            · have hno := fun h => Bool.false_ne_true (hbb.2 h)
              have HNO := Lib.hid hno
              clear hno hbb
              go_wp2_with (refine wpList_store_rowTo rfl 23 (.tmp 6) (.tmp 96) rfl rfl (w.heap.size + 1 + 1) (cfC zeroCf) rfl rfl 23 (cfC zeroCf) kz (by kernel_rfl) rfl (by simp [Value.oneCell']) ?_)
              exact bodyPost_ret (v := .tuple #[cfV zeroCf, .int .i64 1]) (results_cell_tmp (p := 6) (t := 7) (ty := 23) rfl _ _ (w.heap.size + 1 + 1) 23 (cfC zeroCf) (0, 0) _ _ rfl rfl (setRow_heap _ _ _ _ _ _ kz) Try.underlying23 rfl (by kernel_rfl)) rfl (HR'.out.1 HNO.out _ (below_setRow hbl (by omega) _))
            · have hyes := hbb.1 rfl
              have r5 : 0 ≤ c.maps ∧ c.maps ≤ 8 := hyes.1 5 (by omega)
              have r7 : 0 ≤ c.chans ∧ c.chans ≤ 8 := hyes.1 7 (by omega)
              have r0 : 1 ≤ s ∧ s ≤ 8 := hyes.1 0 (by omega)
              have HY := Lib.hid hyes
              clear hbb hyes
              obtain ⟨m, hmm⟩ : ∃ m, m = bk * c.maps := ⟨_, rfl⟩
              have hmb := mul_bd bk c.maps 64 8 (by omega) (by omega) r5.1 r5.2
              rw [← hmm] at hmb
              have hw : IntKind.i64.wrap (bk * c.maps) = m := by rw [← hmm]; exact IntWalk.i64_in _ (by omega)
              have hR := HR'.out.2
              rw [← hmm] at hR
              have HR2 := Lib.hid hR
              clear hmm hR HR'
              have f1 := kc.free 1
              have c1 := kc.cell 1
              simp at c1
              have kz1 := kz.other (p := ⟨wr.heap.size, 1, none⟩) (by simp; omega) (.int .i64 (4 + m + c.chans + p + q + 8 * s))
              have hbl1 := below_set hbl (p := ⟨wr.heap.size, 1, none⟩) (by simp; omega) (.int .i64 (4 + m + c.chans + p + q + 8 * s))
              have kc1 := kc.stored 1 (.int .i64 (4 + m + c.chans + p + q + 8 * s))
              replace kc1 : Bk (w2.setCell ⟨wr.heap.size, 1, none⟩ (.int .i64 (4 + m + c.chans + p + q + 8 * s))) wr.heap.size 23 (cfC ⟨s, (4 + m + c.chans + p + q + 8 * s), bk, s / 2 + s % 2, _, c.cn, c.maps, c.stacks, c.chans⟩) := kc1
              have HKC := Lib.hid kc1
              have HKZ := Lib.hid kz1
              have HBL := Lib.hid hbl1
              clear kz kc hbl kz1 kc1 hbl1
              by_cases hN : 1000 < (4 + m + c.chans + p + q + 8 * s)
              · have gN : decide (1000 < (4 + m + c.chans + p + q + 8 * s)) = true := by simp; omega
                go_wp2_with (refine wpList_store_rowTo rfl 23 (.tmp 6) (.tmp 116) rfl rfl (w.heap.size + 1 + 1) (cfC zeroCf) rfl rfl 23 (cfC zeroCf) HKZ.out (by kernel_rfl) rfl (by simp [Value.oneCell']) ?_)
                exact bodyPost_ret (v := .tuple #[cfV zeroCf, .int .i64 8]) (results_cell_tmp (p := 6) (t := 7) (ty := 23) rfl _ _ (w.heap.size + 1 + 1) 23 (cfC zeroCf) (0, 0) _ _ rfl rfl (setRow_heap _ _ _ _ _ _ HKZ.out) Try.underlying23 rfl (by kernel_rfl)) rfl (HR2.out.1 HY.out hN _ (below_setRow HBL.out (by omega) _))
              · have gN : decide (1000 < (4 + m + c.chans + p + q + 8 * s)) = false := by simp; omega
                go_wp2_with (first
                  | (refine wpList_load_row rfl 23 (.tmp 13) rfl wr.heap.size rfl 23 _ (0, 0) _ HKC.out Try.underlying23 rfl (by kernel_rfl) ?_)
                  | (refine wpList_store_rowTo rfl 23 (.tmp 6) (.tmp 117) rfl rfl (w.heap.size + 1 + 1) (cfC ⟨s, (4 + m + c.chans + p + q + 8 * s), bk, s / 2 + s % 2, _, c.cn, c.maps, c.stacks, c.chans⟩) rfl rfl 23 (cfC zeroCf) HKZ.out (by kernel_rfl) rfl (by simp [Value.oneCell']) ?_))
                exact bodyPost_ret (v := .tuple #[cfV ⟨s, (4 + m + c.chans + p + q + 8 * s), bk, s / 2 + s % 2, _, c.cn, c.maps, c.stacks, c.chans⟩, .int .i64 0]) (results_cell_tmp (p := 6) (t := 7) (ty := 23) rfl _ _ (w.heap.size + 1 + 1) 23 (cfC ⟨s, (4 + m + c.chans + p + q + 8 * s), bk, s / 2 + s % 2, _, c.cn, c.maps, c.stacks, c.chans⟩) (0, 0) _ _ rfl rfl (setRow_heap _ _ _ _ _ _ HKZ.out) Try.underlying23 rfl (by kernel_rfl)) rfl (HR2.out.2 HY.out hN _ (below_setRow HBL.out (by omega) _))
end Go.Proofs.Ythaieabhlodajaa
