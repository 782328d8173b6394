/- law25.played. Printed by played_gen.py. -/
import Derived.Test.YtcjaomiihajjbaaPlayH
import Derived.Test.YtcjaomiihajjbaaPlayB
import Derived.Test.YtcjaomiihajjbaaPlayL
import Derived.Deep.CutRange
namespace Go.Proofs.Ytcjaomiihajjbaa
open Go.RowKit
set_option linter.unusedVariables false
attribute [local go_sem ↓] Go.wp_at_zero Go.wp_at_succ

theorem playL_ok (n : Nat) (t : Int) (h1 : 1 ≤ n) (h2 : n ≤ 3) : TkOk (playL n t) := by
  have m0 : 0 ≤ t % 8 := Int.emod_nonneg _ (by omega)
  have m1 : t % 8 < 8 := Int.emod_lt_of_pos _ (by omega)
  have hn : n = 1 ∨ n = 2 ∨ n = 3 := by omega
  unfold playL playCf
  generalize t % 8 = r at *
  have hr : r = 0 ∨ r = 1 ∨ r = 2 ∨ r = 3 ∨ r = 4 ∨ r = 5 ∨ r = 6 ∨ r = 7 := by omega
  rcases hn with rfl | rfl | rfl <;> rcases hr with rfl | rfl | rfl | rfl | rfl | rfl | rfl | rfl <;> exact ⟨⟨by decide, by decide, by decide, by decide⟩, by decide, by decide, by decide, by decide, by decide, by decide, by decide, by decide⟩
abbrev stA (who at_ : Nat) (ok oo oa ob k c o v r : Int) (b dn : Bool) (val : Int) (is : Bool) (err point : Int) : Array Value := #[.int .i64 who, .int .i64 at_, .int .i64 ok, .int .i64 oo, .int .i64 oa, .int .i64 ob, .int .i64 k, .int .i64 c, .int .i64 o, .int .i64 v, .int .i64 r, .bool b, .bool dn, .int .i64 val, .bool is, .int .i64 err, .int .i64 point, .slice none 0 0]
abbrev stZ (who at_ : Nat) (op : Opr) : Array Value := stA who at_ op.kind op.obj op.a op.b 0 0 0 0 0 false false 0 false 0 0
abbrev st0 : Array Value := stA 0 0 0 0 0 0 0 0 0 0 0 false false 0 false 0 0
theorem keptT_stp {w w' : World} {gm : Nat} {t0 : TypeId} {cs : Array Value} (k : Bk w gm t0 cs) (st : Stp gm w w') : KeptT t0 w w' := by
  intro g cs' t fr h ht
  have hne : g ≠ gm := by
    rintro rfl
    rw [Bk, h] at k
    injection k with k
    injection k with _ k _
    exact ht k
  rw [st.block g (Array.getElem?_eq_some_iff.1 h).1 hne]
  exact h
theorem Stp.far {gm : Nat} {w w' : World} (h : Stp gm w w') {p : Addr} (hp : w.heap.size ≤ p.block) (u : Value) : Stp gm w (w'.setCell p u) :=
  ⟨h.os, h.tape, h.output, by simpa [World.setCell] using h.size, fun b hb hn => (Below.heap_setCell w' p u b (by omega)).trans (h.block b hb hn)⟩
/-- What lies where in a play. -/
structure PRep (w : World) (B b0 b1 bL b5 gs : Nat) (pc : Array Value) (l : Ly) (v8 : Value) (s : PSt) : Prop where
  kP : Bk w b0 27 pc
  k3 : Bk w b1 39 #[.slice none 0 0]
  kL : Bk w bL 34 (lyC l)
  mem : ∃ g cap, Bk w b5 39 #[.slice (some ⟨g, 0, none⟩) s.m.length cap] ∧ OwnInts w 0 (.slice (some ⟨g, 0, none⟩) s.m.length cap) s.m
  seats : ∃ cs, SeatsAt w gs s.seats cs
  out : w.ownsRow B 52 18 v8 s.out.length (stepCells s.out)
theorem PRep.keep {w w' : World} {B b0 b1 bL b5 gs : Nat} {pc : Array Value} {l : Ly} {v8 : Value} {s : PSt} (h : PRep w B b0 b1 bL b5 gs pc l v8 s) (hb : Below w.heap.size w w') : PRep w' B b0 b1 bL b5 gs pc l v8 s := by
  obtain ⟨g, cap, h1, h2⟩ := h.mem
  obtain ⟨cs, h3⟩ := h.seats
  exact ⟨h.kP.keep hb, h.k3.keep hb, h.kL.keep hb, ⟨g, cap, h1.keep hb, own_keepb h2 hb⟩, ⟨cs, h3.keep hb⟩, own_keepb h.out hb⟩
section
variable {w w' : World} {B b0 b1 bL b5 gs : Nat} {pc : Array Value} {l : Ly} {v8 : Value} {s : PSt}
theorem PRep.seat {G : Option Addr} {cap who a : Nat} {log : List (Int × Bool)} (h : PRep w B b0 b1 bL b5 gs pc l v8 s) (hw : who < s.seats.length) (ho : OwnRes w 0 (.slice G log.length cap) log) :
    PRep ((w.setCell ⟨gs, who * 2, none⟩ (.int .i64 (a : Nat))).setCell ⟨gs, who * 2 + 1, none⟩ (.slice G log.length cap)) B b0 b1 bL b5 gs pc l v8 ⟨s.m, s.seats.set who (a, log), s.out⟩ := by
  obtain ⟨g, cp, h1, h2⟩ := h.mem
  obtain ⟨cs, h3⟩ := h.seats
  have hk : KeptT 63 w ((w.setCell ⟨gs, who * 2, none⟩ (.int .i64 (a : Nat))).setCell ⟨gs, who * 2 + 1, none⟩ (.slice G log.length cap)) := (keptT_set h3.row _ _).trans (keptT_set (h3.row.stored _ _) _ _)
  exact ⟨h.kP.keptT hk (by decide), h.k3.keptT hk (by decide), h.kL.keptT hk (by decide), ⟨g, cp, h1.keptT hk (by decide), own_keptT h2 hk (by decide)⟩, ⟨_, h3.set hw ho⟩, own_keptT h.out hk (by decide)⟩
theorem PRep.push {v9 : Value} {st : StepM} (h : PRep w B b0 b1 bL b5 gs pc l v8 s) (hg : w.grownBy w' v8.ownBlock) (hr : w'.ownsRow B 52 18 v9 (s.out.length + 1) (stepCells s.out ++ (stepC st).toList)) : PRep w' B b0 b1 bL b5 gs pc l v9 ⟨s.m, s.seats, s.out ++ [st]⟩ := by
  obtain ⟨g, cp, h1, h2⟩ := h.mem
  obtain ⟨cs, h3⟩ := h.seats
  have hk := keptT_grown h.out hg
  refine ⟨h.kP.keptT hk (by decide), h.k3.keptT hk (by decide), h.kL.keptT hk (by decide), ⟨g, cp, h1.keptT hk (by decide), own_keptT h2 hk (by decide)⟩, ⟨_, h3.keptT hk (by decide) (by decide)⟩, ?_⟩
  rw [stepCells_snoc]
  simpa using hr
theorem PRep.memory {g cap n : Nat} {m' : List Int} (h : PRep w B b0 b1 bL b5 gs pc l v8 s) (st : Stp b5 w w') (hne : b1 ≠ b5) (hn : m'.length = n) (k5 : Bk w' b5 39 #[.slice (some ⟨g, 0, none⟩) n cap]) (ho : OwnInts w' 0 (.slice (some ⟨g, 0, none⟩) n cap) m') : PRep w' B b0 b1 bL b5 gs pc l v8 ⟨m', s.seats, s.out⟩ := by
  subst hn
  obtain ⟨_, _, h1, _⟩ := h.mem
  obtain ⟨cs, h3⟩ := h.seats
  have hk := keptT_stp h1 st
  exact ⟨h.kP.keptT hk (by decide), st.keep h.k3 hne, h.kL.keptT hk (by decide), ⟨g, cap, k5, ho⟩, ⟨_, h3.keptT hk (by decide) (by decide)⟩, own_keptT h.out hk (by decide)⟩
theorem PRep.aside {bX : Nat} {c : Array Value} (h : PRep w B b0 b1 bL b5 gs pc l v8 s) (kX : Bk w bX 63 c) (st : Stp bX w w') (hne : gs ≠ bX) : PRep w' B b0 b1 bL b5 gs pc l v8 s := by
  obtain ⟨g, cp, h1, h2⟩ := h.mem
  obtain ⟨cs, h3⟩ := h.seats
  have hk := keptT_stp kX st
  refine ⟨h.kP.keptT hk (by decide), h.k3.keptT hk (by decide), h.kL.keptT hk (by decide), ⟨g, cp, h1.keptT hk (by decide), own_keptT h2 hk (by decide)⟩, ⟨cs, st.keep h3.row hne, h3.size, fun k x hx => ?_⟩, own_keptT h.out hk (by decide)⟩
  obtain ⟨G, cap, e1, e2, e3⟩ := h3.at_ k x hx
  exact ⟨G, cap, e1, e2, own_keptT e3 hk (by decide)⟩
end
theorem step_info : (Try.prog.info? 52).map (fun i => (i.zero, i.size, i.bytes)) = some (some (.agg (stA 0 0 0 0 0 0 0 0 0 0 0 false false 0 false 0 0)), 18, 160) := by kernel_rfl
theorem step_news (w : World) (cs : Array Value) (hn : cs.size = 18) : ∀ (j : Nat) (u : Value), cs.toList[j]? = some u → (w.alloc (.cells cs 52)).cell? ((⟨w.heap.size, 0, none⟩ : Addr).add j) = some u := by
  intro j u hu
  rw [Go.WideShapes.add_plain, Nat.zero_add, (Bk.made w 52 cs).cell j]
  simpa using hu
def PRel (w0 : World) (b0 b1 bL b5 gs : Nat) (pc : Array Value) (l : Ly) (want : List (List Opr)) (ws : List Nat) (s0 : PSt) (v8 i : Value) (wr : World) : Prop :=
  ∃ (k : Nat) (s : PSt), k ≤ ws.length ∧ i = .int .i64 k ∧ Below w0.heap.size w0 wr ∧ runP l want s0 (ws.take k) = (s, false) ∧ PRep wr w0.heap.size b0 b1 bL b5 gs pc l v8 s
theorem setRow_cell {w : World} {g b o : Nat} {cs : Array Value} (h : b ≠ g) : (w.setRow g cs).cell? ⟨b, o, none⟩ = w.cell? ⟨b, o, none⟩ := by
  simp only [World.cell?, setRow_other w g b cs h]
theorem start_inv (l : Ly) (n : Nat) : PInv n (beginM l).length 0 (startP l n (beginM l)) := by
  refine ⟨by simp [startP], rfl, fun z hz => ?_, fun x hx r hr => ?_, fun x hx => ?_, fun x hx => ?_, by simp [startP]⟩
  · simp only [startP, beginM, beginA, allCells] at hz
    have d : ∀ z : Int, -10 ≤ z → z ≤ 10 → inR z := fun z h1 h2 => ⟨by omega, by omega⟩
    rcases Acc.make_mem hz with hz | rfl
    · rcases Acc.make_mem hz with hz | rfl
      · rcases Acc.make_mem hz with hz | rfl
        · rw [List.mem_replicate] at hz
          exact d _ (by omega) (by omega)
        · exact d _ (by simp [Acc.next]) (by simp [Acc.next])
      · exact d _ (by simp [Acc.next]) (by simp [Acc.next])
    · exact d _ (by simp [Acc.next]) (by simp [Acc.next])
  · simp [startP, List.mem_replicate] at hx; rw [hx.2] at hr; simp at hr
  · simp [startP, List.mem_replicate] at hx; rw [hx.2]; simp
  · simp [startP, List.mem_replicate] at hx; rw [hx.2]; simp
/-- What played hands back. -/
def Played (s : PSt) (w : World) (e : Ending) (w' : World) : Prop :=
  ∃ A cap g c, e = .returned (.tuple #[.slice A s.out.length cap, memV (some ⟨g, 0, none⟩) s.m.length c]) ∧ w'.ownsRow w.heap.size 52 18 (.slice A s.out.length cap) s.out.length (stepCells s.out) ∧ OwnInts w' 0 (.slice (some ⟨g, 0, none⟩) s.m.length c) s.m ∧ Below w.heap.size w w'
set_option maxRecDepth 100000 in
set_option maxHeartbeats 8000000 in
theorem played_any (t : Int) (W : Option Addr) (n c : Nat) (T : Option Addr) (m d : Nat) (want : List (List Opr)) (turns : List Nat) (w : World) (t0 : 0 ≤ t) (t1 : t < 256) (h1 : 1 ≤ n) (h2 : n ≤ 3) (hn : want.length = n) (hm : turns.length = m) (hm2 : m ≤ 200)
    (hW : SlWant w w.heap.size W want) (hT : SlU8 w w.heap.size T turns) (hok : WantOk want) :
    Calls Try.prog 9 #[.agg (playC t W n c T m d)] w (Played (runP (playL n t) want (startP (playL n t) n (beginM (playL n t))) (whosP n turns)).1 w) := by
  have HOK := Lib.hid (playL_ok n t h1 h2)
  obtain ⟨l, hl⟩ : ∃ l, playL n t = l := ⟨_, rfl⟩
  obtain ⟨sF, hsF⟩ : ∃ s, (runP (playL n t) want (startP (playL n t) n (beginM (playL n t))) (whosP n turns)).1 = s := ⟨_, rfl⟩
  rw [hsF]
  rw [hl] at HOK hsF
  have HL := Lib.hid hl
  have HF := Lib.hid hsF
  clear hl hsF
  have HW := Lib.hid (And.intro hW (And.intro hT hok))
  have HN := Lib.hid (And.intro hn hm)
  clear hW hT hok hn hm
  have k0 := (Bk.made w 27 (playC t W n c T m d)).alloc (.cells #[.slice none 0 0] 39)
  have k1 := Bk.new (w.alloc (.cells (playC t W n c T m d) 27)) (g := w.heap.size + 1) (by simp) 39 #[.slice none 0 0]
  have hbl := below_al (below_al (Below.refl w.heap.size w) (.cells (playC t W n c T m d) 27)) (.cells #[.slice none 0 0] 39)
  go_enter Try.func9, Try.ntmps9
  go_wp2_with fail
  (with_reducible refine (where_any t W n c T m d _ t0 t1 h1 (by omega)).mono ?_)
  rintro e w1 ⟨rfl, hb⟩
  replace k0 := k0.keep hb
  replace k1 := k1.keep hb
  replace hbl := below_tr hbl hb
  clear hb
  rw [HL.out]
  go_upto_region 2 with (refine wpList_store_new rfl 34 (.tmp 4) (.tmp 21) rfl rfl w1.heap.size _ _ (lyC l) rfl rfl rfl rfl (by kernel_rfl) rfl (by simp [Value.oneCell']) ?_)
  have kL := Bk.made w1 34 (lyC l)
  have hLs : w.heap.size + 1 < w1.heap.size := k1.lt
  replace k0 := k0.alloc (.cells (lyC l) 34)
  replace k1 := k1.alloc (.cells (lyC l) 34)
  replace hbl := below_al hbl (.cells (lyC l) 34)
  generalize w1.alloc (.cells (lyC l) 34) = w2 at *
  generalize w1.heap.size = bL at *
  go_wp2_with (refine wpList_load_row rfl 34 (.tmp 4) rfl bL rfl 34 (lyC l) (0, 0) _ kL Try.underlying34 rfl (by kernel_rfl) ?_)
  (with_reducible refine (begin_any l _ HOK.out).mono ?_)
  rintro e w3 ⟨g, cap, rfl, hown, hb⟩
  replace k0 := k0.keep hb
  replace k1 := k1.keep hb
  replace kL := kL.keep hb
  replace hbl := below_tr hbl hb
  clear hb
  have HM := Lib.hid hown
  clear hown
  generalize hM : (beginM l).length = M at *
  have HMM := Lib.hid hM
  clear hM
  have q0 := k0.cell 1
  have q1 := k0.cell 2
  have z0 := k0.lt
  simp at q0 q1
  have hq : ∀ w, (Instr.makeSlice 60 (.int .i64 n) (.int .i64 n)).run Try.prog w = .ok (.slice (some ⟨w.heap.size, 0, none⟩) n n) (w.alloc (.cells (seatZ n) 63)) := fun w => run_make_seats w n (by omega)
  have HQ := Lib.hid hq
  clear hq
  go_wp2_with (refine wpList_make_row rfl _ _ rfl n _ rfl rfl (HQ.out _) ?_)
  have k5 := (Bk.made w3 39 #[.slice (some ⟨g, 0, none⟩) M cap]).alloc (.cells (seatZ n) 63)
  have kS := Bk.new (w3.alloc (.cells #[.slice (some ⟨g, 0, none⟩) M cap] 39)) (g := w3.heap.size + 1) (by simp) 63 (seatZ n)
  have hrep : PRep ((w3.alloc (.cells #[.slice (some ⟨g, 0, none⟩) M cap] 39)).alloc (.cells (seatZ n) 63)) w.heap.size w.heap.size (w.heap.size + 1) bL w3.heap.size (w3.heap.size + 1) (playC t W n c T m d) l (.slice none 0 0) (startP l n (beginM l)) := by
    refine ⟨(k0.alloc _).alloc _, (k1.alloc _).alloc _, (kL.alloc _).alloc _, ⟨g, cap, ?_, ?_⟩, ⟨_, seats_made kS⟩, World.ownsRow_nil _ _ _ _⟩
    · show Bk _ _ _ #[.slice (some ⟨g, 0, none⟩) (beginM l).length cap]
      rw [HMM.out]
      exact k5
    · show OwnInts _ 0 (.slice (some ⟨g, 0, none⟩) (beginM l).length cap) (beginM l)
      rw [HMM.out]
      exact (HM.out.alloc _).alloc _
  have h35 : bL < w3.heap.size := kL.lt
  replace hbl := below_al (below_al hbl (.cells #[.slice (some ⟨g, 0, none⟩) M cap] 39)) (.cells (seatZ n) 63)
  have HR := Lib.hid hrep
  clear hrep k0 k1 kL k5 kS q0 q1 z0 HM HMM HQ
  generalize (w3.alloc (.cells #[.slice (some ⟨g, 0, none⟩) M cap] 39)).alloc (.cells (seatZ n) 63) = w4 at *
  generalize w3.heap.size = b5 at *
  go_loopw [8, 10] (fun v8 i wr => PRel w w.heap.size (w.heap.size + 1) bL b5 (b5 + 1) (playC t W n c T m d) l want (whosP n turns) (startP l n (beginM l)) v8 i wr) (fun _ i _ => (whosP n turns).length - (intOf i).toNat)
  case atStart => exact ⟨0, startP l n (beginM l), Nat.zero_le _, rfl, hbl, rfl, HR.out⟩
  case round =>
    clear hbl HR
    obtain ⟨k, s, hk, rfl, hbl, hrun, hrep⟩ := hrel
    have hlen := whosP_length n turns
    rw [HN.out.2] at hlen
    have hinv : PInv n (beginM l).length (0 + (whosP n turns).length) s := (PInv.run HW.out.2.2 _ (start_inv l n) hrun).mono (by simp; omega)
    rw [hlen] at hk hinv
    have HI := Lib.hid hinv
    have HRUN := Lib.hid hrun
    have HLEN := Lib.hid hlen
    clear hinv hrun hlen
    have kP := hrep.kP
    have q2 := kP.cell 2
    have z0 := kP.lt
    simp at q2
    by_cases hlt : k < m + n * 60
    · obtain ⟨who, hwho⟩ : ∃ who, (whosP n turns)[k]? = some who := ⟨_, List.getElem?_eq_getElem (by rw [HLEN.out]; exact hlt)⟩
      have hwn : who < n := whosP_lt (by omega) hwho
      have HWHO := Lib.hid hwho
      have HREP := Lib.hid hrep
      clear hwho hrep kP
      have i0 : decide ((k : Int) < m + n * 60) = true := by simp; omega
      obtain ⟨j, hj⟩ : ∃ j : Nat, k - m = j := ⟨_, rfl⟩
      have hmax : ∀ (w : World) (ts : Array TypeId) (t : TypeId), (Builtin.max_ ts t #[.int .i64 0, .int .i64 ((k : Int) - m)]).run Try.prog w = .ok (.int .i64 (j : Int)) w := fun w ts t => by
        rw [run_max_int2]
        congr 2
        split <;> omega
      have hjb : j ≤ 400 := by omega
      have HJ := Lib.hid hj
      clear hj
      go_upto_if 51 with fail
      clear i0 hmax
      go_cut [11] from 35 to 146 (fun v wx => v = .int .i64 who ∧ wx = wr)
      case first =>
        have w1 := HWHO.out
        by_cases hkm : k < m
        · obtain ⟨bT, oT, rfl, hbT, hcT⟩ := (HW.out.2.1.below hbl) (by rw [HN.out.2]; omega)
          obtain ⟨tt, htt⟩ : ∃ tt, turns[k]? = some tt := ⟨_, List.getElem?_eq_getElem (by rw [HN.out.2]; exact hkm)⟩
          obtain ⟨q3, q4⟩ := hcT k tt htt
          rw [whosP_left htt] at w1
          injection w1 with w1
          have HW1 := Lib.hid w1
          clear w1 hcT htt
          have i1 : (k : Int) < m := by omega
          go_wp2_with fail
          go_meet
          exact ⟨by rw [← HW1.out]; rfl, rfl⟩
        · have i1 : decide ((k : Int) < m) = false := by simp; omega
          have i2 : decide (k < m) = false := by simp; omega
          rw [whosP_right (by rw [HN.out.2]; omega) (by rw [HN.out.2]; exact hlt), HN.out.2] at w1
          injection w1 with w1
          have HW1 := Lib.hid w1
          clear w1
          go_wp2_with fail
          go_meet
          exact ⟨by rw [← HW1.out, HJ.out]; rfl, rfl⟩
      case rest =>
        obtain ⟨rfl, hwc⟩ := hcut
        subst wc
        clear q2 HJ hjb
        obtain ⟨cs, hse⟩ := HREP.out.seats
        obtain ⟨x, hx⟩ : ∃ x, s.seats[who]? = some x := ⟨_, List.getElem?_eq_getElem (by rw [HI.out.ns]; exact hwn)⟩
        obtain ⟨G, cp, e1, e2, hres⟩ := hse.at_ who x hx
        have c1 := (hse.row.cell (who * 2)).trans e1
        have c2 := (hse.row.cell (who * 2 + 1)).trans e2
        have zS := hse.row.lt
        have hxm := List.mem_of_getElem? hx
        have hxa : x.1 ≤ 400 := by have := HI.out.al x hxm; omega
        have hxl : x.2.length ≤ 400 := by have := HI.out.ll x hxm; omega
        have HX := Lib.hid hx
        have HXR := Lib.hid (HI.out.lr x hxm)
        have HRES := Lib.hid hres
        have HSE := Lib.hid hse
        obtain ⟨ops, hops⟩ : ∃ ops, want[who]? = some ops := ⟨_, List.getElem?_eq_getElem (by rw [HN.out.1]; exact hwn)⟩
        obtain ⟨bW, oW, rfl, hbW, hcW⟩ := (HW.out.1.below hbl) (by rw [HN.out.1]; omega)
        obtain ⟨AO, cO, cW, hsO⟩ := hcW who ops hops
        have HO := Lib.hid hops
        have HSO := Lib.hid hsO
        clear hx hxm hres hse e1 e2 hcW hops hsO
        obtain ⟨at_, log⟩ := x
        dsimp only at c1 c2 hxa hxl HXR HRES
        have g1 : decide (n ≤ who) = false := by simp; omega
        have g2 : decide ((n : Int) ≤ who) = false := by simp; omega
        have g3 : (who : Int) < n := by omega
        have kP := HREP.out.kP.alloc (.cells #[.int .i64 (at_ : Nat), .slice G log.length cp] 63)
        have kX := Bk.made wr 63 #[.int .i64 (at_ : Nat), .slice G log.length cp]
        have cW2 : (wr.alloc (.cells #[.int .i64 (at_ : Nat), .slice G log.length cp] 63)).cell? ⟨bW, oW + who, none⟩ = some (.slice AO ops.length cO) := by
          rw [World.cell?_alloc_lt _ _ _ (by dsimp only; have := hbl.size; omega)]
          exact cW
        have hbl2 := below_al hbl (.cells #[.int .i64 (at_ : Nat), .slice G log.length cp] 63)
        go_upto_region 15 with fail
        clear c1 c2 cW
        have hbc : Below wr.heap.size wr (wr.alloc (.cells #[.int .i64 (at_ : Nat), .slice G log.length cp] 63)) := below_al (Below.refl _ _) _
        refine wp_region_held_drew (S := fun w' => Bk w' w.heap.size 27 (playC t (some ⟨bW, oW, none⟩) n c T m d) ∧ Bk w' wr.heap.size 63 #[.int .i64 (at_ : Nat), .slice G log.length cp] ∧ w'.cell? ⟨bW, oW + who, none⟩ = some (.slice AO ops.length cO)) (by kernel_rfl) ⟨kP.drew, kX.drew, cW2⟩ (fun hHeld => ?_)
        clear hHeld
        replace kP := kP.drew
        replace kX := kX.drew
        replace hbc := below_drew hbc
        replace cW2 : (wr.alloc (.cells #[.int .i64 (at_ : Nat), .slice G log.length cp] 63)).drew.cell? ⟨bW, oW + who, none⟩ = some (.slice AO ops.length cO) := cW2
        clear hbl2
        generalize (wr.alloc (.cells #[.int .i64 (at_ : Nat), .slice G log.length cp] 63)).drew = w5 at *
        obtain ⟨bX, hbX⟩ : ∃ b, wr.heap.size = b := ⟨_, rfl⟩
        rw [hbX] at kX zS
        rw [hbX]
        have HBX := Lib.hid hbX
        clear hbX
        have HBC := Lib.hid hbc
        clear hbc
        refine wpAnyH_take (i := 0) (oi := _) (v := .pointer (some ⟨bX, 0, none⟩)) rfl (by kernel_rfl) (by kernel_rfl) (by kernel_rfl) (fun _ _ _ h => h) (Or.inl ⟨by rfl, ?_⟩) ⟨kP, kX, cW2⟩ ?_
        · intro w' hSw
          (try simp only [List.getElem_toArray, List.getElem_cons_zero])
          go_simp
        (try simp only [List.getElem_toArray, List.getElem_cons_zero, Act.put, List.setIfInBounds_toArray, List.set_cons_zero, List.set_cons_succ])
        refine wpAnyH_take (i := 1) (oi := _) (v := .int .i64 (at_ : Nat)) rfl (by kernel_rfl) (by kernel_rfl) (by kernel_rfl) (fun _ _ _ h => h) (Or.inl ⟨by rfl, ?_⟩) ⟨kP, kX, cW2⟩ ?_
        · intro w' hSw
          have s1 := hSw.1.cell 1
          have s2 := hSw.2.1.cell 0
          have s3 := hSw.2.2
          simp at s1 s2 s3
          (try simp only [List.getElem_toArray, List.getElem_cons_succ, List.getElem_cons_zero])
          go_simp
        (try simp only [List.getElem_toArray, List.getElem_cons_succ, List.getElem_cons_zero, Act.put, List.setIfInBounds_toArray, List.set_cons_zero, List.set_cons_succ])
        refine wpAnyH_take (i := 2) (oi := _) (v := .pointer (some ⟨w.heap.size, 1, none⟩)) rfl (by kernel_rfl) (by kernel_rfl) (by kernel_rfl) (fun _ _ _ h => h) (Or.inl ⟨by rfl, ?_⟩) ⟨kP, kX, cW2⟩ ?_
        · intro w' hSw
          (try simp only [List.getElem_toArray, List.getElem_cons_succ, List.getElem_cons_zero])
          go_simp
        (try simp only [List.getElem_toArray, List.getElem_cons_succ, List.getElem_cons_zero, Act.put, List.setIfInBounds_toArray, List.set_cons_zero, List.set_cons_succ])
        refine wpAnyH_take (i := 3) (oi := _) (v := .slice (some ⟨bW, oW, none⟩) n c) rfl (by kernel_rfl) (by kernel_rfl) (by kernel_rfl) (fun _ _ _ h => h) (Or.inl ⟨by rfl, ?_⟩) ⟨kP, kX, cW2⟩ ?_
        · intro w' hSw
          have s1 := hSw.1.cell 1
          have s2 := hSw.2.1.cell 0
          have s3 := hSw.2.2
          simp at s1 s2 s3
          (try simp only [List.getElem_toArray, List.getElem_cons_succ, List.getElem_cons_zero])
          go_simp
        (try simp only [List.getElem_toArray, List.getElem_cons_succ, List.getElem_cons_zero, Act.put, List.setIfInBounds_toArray, List.set_cons_zero, List.set_cons_succ])
        refine wpAnyH_take (i := 4) (oi := _) (v := .int .i64 (who : Nat)) rfl (by kernel_rfl) (by kernel_rfl) (by kernel_rfl) (fun _ _ _ h => h) (Or.inl ⟨by rfl, ?_⟩) ⟨kP, kX, cW2⟩ ?_
        · intro w' hSw
          (try simp only [List.getElem_toArray, List.getElem_cons_succ, List.getElem_cons_zero])
          go_simp
        (try simp only [List.getElem_toArray, List.getElem_cons_succ, List.getElem_cons_zero, Act.put, List.setIfInBounds_toArray, List.set_cons_zero, List.set_cons_succ])
        refine wpAnyH_take (i := 5) (oi := _) (v := .pointer (some ⟨bW, oW + who, none⟩)) rfl (by kernel_rfl) (by kernel_rfl) (by kernel_rfl) (fun _ _ _ h => h) (Or.inl ⟨by rfl, ?_⟩) ⟨kP, kX, cW2⟩ ?_
        · intro w' hSw
          (try simp only [List.getElem_toArray, List.getElem_cons_succ, List.getElem_cons_zero])
          go_simp
        (try simp only [List.getElem_toArray, List.getElem_cons_succ, List.getElem_cons_zero, Act.put, List.setIfInBounds_toArray, List.set_cons_zero, List.set_cons_succ])
        refine wpAnyH_take (i := 6) (oi := _) (v := .slice AO ops.length cO) rfl (by kernel_rfl) (by kernel_rfl) (by kernel_rfl) (fun _ _ _ h => h) (Or.inl ⟨by rfl, ?_⟩) ⟨kP, kX, cW2⟩ ?_
        · intro w' hSw
          have s1 := hSw.1.cell 1
          have s2 := hSw.2.1.cell 0
          have s3 := hSw.2.2
          simp at s1 s2 s3
          (try simp only [List.getElem_toArray, List.getElem_cons_succ, List.getElem_cons_zero])
          go_simp
        (try simp only [List.getElem_toArray, List.getElem_cons_succ, List.getElem_cons_zero, Act.put, List.setIfInBounds_toArray, List.set_cons_zero, List.set_cons_succ])
        refine wpAnyH_take (i := 7) (oi := _) (v := .int .i64 (ops.length : Nat)) rfl (by kernel_rfl) (by kernel_rfl) (by kernel_rfl) (fun _ _ _ h => h) (Or.inl ⟨by rfl, ?_⟩) ⟨kP, kX, cW2⟩ ?_
        · intro w' hSw
          (try simp only [List.getElem_toArray, List.getElem_cons_succ, List.getElem_cons_zero])
          go_simp
        (try simp only [List.getElem_toArray, List.getElem_cons_succ, List.getElem_cons_zero, Act.put, List.setIfInBounds_toArray, List.set_cons_zero, List.set_cons_succ])
        refine wpAnyH_take (i := 8) (oi := _) (v := .bool (decide ((ops.length : Int) ≤ (at_ : Nat)))) rfl (by kernel_rfl) (by kernel_rfl) (by kernel_rfl) (fun _ _ _ h => h) (Or.inl ⟨by rfl, ?_⟩) ⟨kP, kX, cW2⟩ ?_
        · intro w' hSw
          (try simp only [List.getElem_toArray, List.getElem_cons_succ, List.getElem_cons_zero])
          go_simp
        (try simp only [List.getElem_toArray, List.getElem_cons_succ, List.getElem_cons_zero, Act.put, List.setIfInBounds_toArray, List.set_cons_zero, List.set_cons_succ])
        refine wpAnyH_done (by kernel_rfl) ?_ _
        by_cases hat : ops.length ≤ at_
        · have g4 : decide ((ops.length : Int) ≤ (at_ : Nat)) = true := by simp; omega
          have g5 : decide (ops.length ≤ at_) = true := by simp; omega
          have hturn : turnP l want who s = some s := by
            unfold turnP
            rw [HX.out]
            dsimp only
            rw [List.getD_eq_getElem?_getD, HO.out, Option.getD_some, List.getElem?_eq_none hat]
          have HT := Lib.hid (runP_snoc HRUN.out hturn)
          clear hturn cW2 kP
          go_wp2_with fail
          go_roundw
          case rel =>
            refine ⟨k + 1, s, by rw [HLEN.out]; omega, by go_num, below_tr hbl HBC.out, ?_, HREP.out.keep HBC.out⟩
            rw [List.take_add_one, HWHO.out]
            exact HT.out
          case measure => rw [HLEN.out]; simp [intOf]; omega
        · have g4 : decide ((ops.length : Int) ≤ (at_ : Nat)) = false := by simp; omega
          have g5 : decide (ops.length ≤ at_) = false := by simp; omega
          obtain ⟨op, hop⟩ : ∃ op, ops[at_]? = some op := ⟨_, List.getElem?_eq_getElem (by omega)⟩
          obtain ⟨bO, oO, rfl, hbO, hcO⟩ := HSO.out (by omega)
          obtain ⟨p1, p2, p3, p4⟩ := hcO at_ op hop
          have HOP := Lib.hid hop
          clear hcO hop
          have g6 : (at_ : Int) < ops.length := by omega
          go_upto_region 16 with fail
          clear g4 g5
          have hO5 : bO < wr.heap.size := by have := hbl.size; omega
          have hS : Bk w5.drew w.heap.size 27 (playC t (some ⟨bW, oW, none⟩) n c T m d) ∧ Bk w5.drew bX 63 #[.int .i64 (at_ : Nat), .slice G log.length cp] ∧ w5.drew.cell? ⟨bW, oW + who, none⟩ = some (.slice (some ⟨bO, oO, none⟩) ops.length cO) ∧ w5.drew.cell? ⟨bO, oO + at_ * 4, none⟩ = some (.int .i64 op.kind) ∧ w5.drew.cell? ⟨bO, oO + at_ * 4 + 1, none⟩ = some (.int .i64 op.obj) ∧ w5.drew.cell? ⟨bO, oO + at_ * 4 + 2, none⟩ = some (.int .i64 op.a) ∧ w5.drew.cell? ⟨bO, oO + at_ * 4 + 3, none⟩ = some (.int .i64 op.b) :=
            ⟨kP, kX, cW2, (HBC.out.cell (p := ⟨bO, _, none⟩) hO5).trans p1, (HBC.out.cell (p := ⟨bO, _, none⟩) hO5).trans p2, (HBC.out.cell (p := ⟨bO, _, none⟩) hO5).trans p3, (HBC.out.cell (p := ⟨bO, _, none⟩) hO5).trans p4⟩
          have hbc := below_drew HBC.out
          refine wp_region_held_drew (S := fun w' => Bk w' w.heap.size 27 (playC t (some ⟨bW, oW, none⟩) n c T m d) ∧ Bk w' bX 63 #[.int .i64 (at_ : Nat), .slice G log.length cp] ∧ w'.cell? ⟨bW, oW + who, none⟩ = some (.slice (some ⟨bO, oO, none⟩) ops.length cO) ∧ w'.cell? ⟨bO, oO + at_ * 4, none⟩ = some (.int .i64 op.kind) ∧ w'.cell? ⟨bO, oO + at_ * 4 + 1, none⟩ = some (.int .i64 op.obj) ∧ w'.cell? ⟨bO, oO + at_ * 4 + 2, none⟩ = some (.int .i64 op.a) ∧ w'.cell? ⟨bO, oO + at_ * 4 + 3, none⟩ = some (.int .i64 op.b)) (by kernel_rfl) hS (fun hHeld => ?_)
          clear hHeld p1 p2 p3 p4 kP cW2 HBC
          replace kX := kX.drew
          generalize w5.drew = w6 at *
          have HBC := Lib.hid hbc
          clear hbc
          refine wpAnyH_take (i := 0) (oi := _) (v := .int .i64 (who : Nat)) rfl (by kernel_rfl) (by kernel_rfl) (by kernel_rfl) (fun _ _ _ h => h) (Or.inl ⟨by rfl, ?_⟩) hS ?_
          · intro w' hSw
            (try simp only [List.getElem_toArray, List.getElem_cons_zero])
            go_simp
          (try simp only [List.getElem_toArray, List.getElem_cons_zero, Act.put, List.setIfInBounds_toArray, List.set_cons_zero, List.set_cons_succ])
          refine wpAnyH_take (i := 1) (oi := _) (v := .pointer (some ⟨bX, 0, none⟩)) rfl (by kernel_rfl) (by kernel_rfl) (by kernel_rfl) (fun _ _ _ h => h) (Or.inl ⟨by rfl, ?_⟩) hS ?_
          · intro w' hSw
            (try simp only [List.getElem_toArray, List.getElem_cons_succ, List.getElem_cons_zero])
            go_simp
          (try simp only [List.getElem_toArray, List.getElem_cons_succ, List.getElem_cons_zero, Act.put, List.setIfInBounds_toArray, List.set_cons_zero, List.set_cons_succ])
          refine wpAnyH_take (i := 2) (oi := _) (v := .int .i64 (at_ : Nat)) rfl (by kernel_rfl) (by kernel_rfl) (by kernel_rfl) (fun _ _ _ h => h) (Or.inl ⟨by rfl, ?_⟩) hS ?_
          · intro w' hSw
            have s1 := hSw.1.cell 1
            have s2 := hSw.2.1.cell 0
            have s3 := hSw.2.2.1
            have s4 := hSw.2.2.2.1
            have s5 := hSw.2.2.2.2.1
            have s6 := hSw.2.2.2.2.2.1
            have s7 := hSw.2.2.2.2.2.2
            simp at s1 s2 s3 s4 s5 s6 s7
            (try simp only [List.getElem_toArray, List.getElem_cons_succ, List.getElem_cons_zero])
            go_simp
          (try simp only [List.getElem_toArray, List.getElem_cons_succ, List.getElem_cons_zero, Act.put, List.setIfInBounds_toArray, List.set_cons_zero, List.set_cons_succ])
          refine wpAnyH_take (i := 3) (oi := _) (v := .pointer (some ⟨w.heap.size, 1, none⟩)) rfl (by kernel_rfl) (by kernel_rfl) (by kernel_rfl) (fun _ _ _ h => h) (Or.inl ⟨by rfl, ?_⟩) hS ?_
          · intro w' hSw
            (try simp only [List.getElem_toArray, List.getElem_cons_succ, List.getElem_cons_zero])
            go_simp
          (try simp only [List.getElem_toArray, List.getElem_cons_succ, List.getElem_cons_zero, Act.put, List.setIfInBounds_toArray, List.set_cons_zero, List.set_cons_succ])
          refine wpAnyH_take (i := 4) (oi := _) (v := .slice (some ⟨bW, oW, none⟩) n c) rfl (by kernel_rfl) (by kernel_rfl) (by kernel_rfl) (fun _ _ _ h => h) (Or.inl ⟨by rfl, ?_⟩) hS ?_
          · intro w' hSw
            have s1 := hSw.1.cell 1
            have s2 := hSw.2.1.cell 0
            have s3 := hSw.2.2.1
            have s4 := hSw.2.2.2.1
            have s5 := hSw.2.2.2.2.1
            have s6 := hSw.2.2.2.2.2.1
            have s7 := hSw.2.2.2.2.2.2
            simp at s1 s2 s3 s4 s5 s6 s7
            (try simp only [List.getElem_toArray, List.getElem_cons_succ, List.getElem_cons_zero])
            go_simp
          (try simp only [List.getElem_toArray, List.getElem_cons_succ, List.getElem_cons_zero, Act.put, List.setIfInBounds_toArray, List.set_cons_zero, List.set_cons_succ])
          refine wpAnyH_take (i := 5) (oi := _) (v := .int .i64 (who : Nat)) rfl (by kernel_rfl) (by kernel_rfl) (by kernel_rfl) (fun _ _ _ h => h) (Or.inl ⟨by rfl, ?_⟩) hS ?_
          · intro w' hSw
            (try simp only [List.getElem_toArray, List.getElem_cons_succ, List.getElem_cons_zero])
            go_simp
          (try simp only [List.getElem_toArray, List.getElem_cons_succ, List.getElem_cons_zero, Act.put, List.setIfInBounds_toArray, List.set_cons_zero, List.set_cons_succ])
          refine wpAnyH_take (i := 6) (oi := _) (v := .pointer (some ⟨bW, oW + who, none⟩)) rfl (by kernel_rfl) (by kernel_rfl) (by kernel_rfl) (fun _ _ _ h => h) (Or.inl ⟨by rfl, ?_⟩) hS ?_
          · intro w' hSw
            (try simp only [List.getElem_toArray, List.getElem_cons_succ, List.getElem_cons_zero])
            go_simp
          (try simp only [List.getElem_toArray, List.getElem_cons_succ, List.getElem_cons_zero, Act.put, List.setIfInBounds_toArray, List.set_cons_zero, List.set_cons_succ])
          refine wpAnyH_take (i := 7) (oi := _) (v := .slice (some ⟨bO, oO, none⟩) ops.length cO) rfl (by kernel_rfl) (by kernel_rfl) (by kernel_rfl) (fun _ _ _ h => h) (Or.inl ⟨by rfl, ?_⟩) hS ?_
          · intro w' hSw
            have s1 := hSw.1.cell 1
            have s2 := hSw.2.1.cell 0
            have s3 := hSw.2.2.1
            have s4 := hSw.2.2.2.1
            have s5 := hSw.2.2.2.2.1
            have s6 := hSw.2.2.2.2.2.1
            have s7 := hSw.2.2.2.2.2.2
            simp at s1 s2 s3 s4 s5 s6 s7
            (try simp only [List.getElem_toArray, List.getElem_cons_succ, List.getElem_cons_zero])
            go_simp
          (try simp only [List.getElem_toArray, List.getElem_cons_succ, List.getElem_cons_zero, Act.put, List.setIfInBounds_toArray, List.set_cons_zero, List.set_cons_succ])
          refine wpAnyH_take (i := 8) (oi := _) (v := .pointer (some ⟨bX, 0, none⟩)) rfl (by kernel_rfl) (by kernel_rfl) (by kernel_rfl) (fun _ _ _ h => h) (Or.inl ⟨by rfl, ?_⟩) hS ?_
          · intro w' hSw
            (try simp only [List.getElem_toArray, List.getElem_cons_succ, List.getElem_cons_zero])
            go_simp
          (try simp only [List.getElem_toArray, List.getElem_cons_succ, List.getElem_cons_zero, Act.put, List.setIfInBounds_toArray, List.set_cons_zero, List.set_cons_succ])
          refine wpAnyH_take (i := 9) (oi := _) (v := .int .i64 (at_ : Nat)) rfl (by kernel_rfl) (by kernel_rfl) (by kernel_rfl) (fun _ _ _ h => h) (Or.inl ⟨by rfl, ?_⟩) hS ?_
          · intro w' hSw
            have s1 := hSw.1.cell 1
            have s2 := hSw.2.1.cell 0
            have s3 := hSw.2.2.1
            have s4 := hSw.2.2.2.1
            have s5 := hSw.2.2.2.2.1
            have s6 := hSw.2.2.2.2.2.1
            have s7 := hSw.2.2.2.2.2.2
            simp at s1 s2 s3 s4 s5 s6 s7
            (try simp only [List.getElem_toArray, List.getElem_cons_succ, List.getElem_cons_zero])
            go_simp
          (try simp only [List.getElem_toArray, List.getElem_cons_succ, List.getElem_cons_zero, Act.put, List.setIfInBounds_toArray, List.set_cons_zero, List.set_cons_succ])
          refine wpAnyH_take (i := 10) (oi := _) (v := .pointer (some ⟨bO, oO + at_ * 4, none⟩)) rfl (by kernel_rfl) (by kernel_rfl) (by kernel_rfl) (fun _ _ _ h => h) (Or.inl ⟨by rfl, ?_⟩) hS ?_
          · intro w' hSw
            (try simp only [List.getElem_toArray, List.getElem_cons_succ, List.getElem_cons_zero])
            go_simp
          (try simp only [List.getElem_toArray, List.getElem_cons_succ, List.getElem_cons_zero, Act.put, List.setIfInBounds_toArray, List.set_cons_zero, List.set_cons_succ])
          refine wpAnyH_take (i := 11) (oi := _) (v := .agg (oprC op)) rfl (by kernel_rfl) (by kernel_rfl) (by kernel_rfl) (fun _ _ _ h => h) (Or.inl ⟨by rfl, ?_⟩) hS ?_
          · intro w' hSw
            have s1 := hSw.1.cell 1
            have s2 := hSw.2.1.cell 0
            have s3 := hSw.2.2.1
            have s4 := hSw.2.2.2.1
            have s5 := hSw.2.2.2.2.1
            have s6 := hSw.2.2.2.2.2.1
            have s7 := hSw.2.2.2.2.2.2
            simp at s1 s2 s3 s4 s5 s6 s7
            (try simp only [List.getElem_toArray, List.getElem_cons_succ, List.getElem_cons_zero])
            go_simp
          (try simp only [List.getElem_toArray, List.getElem_cons_succ, List.getElem_cons_zero, Act.put, List.setIfInBounds_toArray, List.set_cons_zero, List.set_cons_succ])
          refine wpAnyH_take (i := 12) (oi := _) (v := .agg (stZ who at_ op)) rfl (by kernel_rfl) (by kernel_rfl) (by kernel_rfl) (fun _ _ _ h => h) (Or.inl ⟨by rfl, ?_⟩) hS ?_
          · intro w' hSw
            (try simp only [List.getElem_toArray, List.getElem_cons_succ, List.getElem_cons_zero])
            go_simp
          (try simp only [List.getElem_toArray, List.getElem_cons_succ, List.getElem_cons_zero, Act.put, List.setIfInBounds_toArray, List.set_cons_zero, List.set_cons_succ])
          refine wpAnyH_ready (rs := [13]) (by kernel_rfl) (by simp) ?_
          refine AllReadyH.cons (o := _) rfl (fun K hK => ?_) AllReadyH.nil
          (try simp only [List.getElem_toArray, List.getElem_cons_succ, List.getElem_cons_zero])
          go_simp
          have hS2 : Bk (w6.alloc (.cells st0 52)) w.heap.size 27 (playC t (some ⟨bW, oW, none⟩) n c T m d) ∧ Bk (w6.alloc (.cells st0 52)) bX 63 #[.int .i64 (at_ : Nat), .slice G log.length cp] ∧ (w6.alloc (.cells st0 52)).cell? ⟨bW, oW + who, none⟩ = some (.slice (some ⟨bO, oO, none⟩) ops.length cO) ∧ (w6.alloc (.cells st0 52)).cell? ⟨bO, oO + at_ * 4, none⟩ = some (.int .i64 op.kind) ∧ (w6.alloc (.cells st0 52)).cell? ⟨bO, oO + at_ * 4 + 1, none⟩ = some (.int .i64 op.obj) ∧ (w6.alloc (.cells st0 52)).cell? ⟨bO, oO + at_ * 4 + 2, none⟩ = some (.int .i64 op.a) ∧ (w6.alloc (.cells st0 52)).cell? ⟨bO, oO + at_ * 4 + 3, none⟩ = some (.int .i64 op.b) :=
            ⟨hS.1.alloc _, hS.2.1.alloc _, (World.cell?_alloc_lt _ _ _ (cell_lt hS.2.2.1)).trans hS.2.2.1, (World.cell?_alloc_lt _ _ _ (cell_lt hS.2.2.2.1)).trans hS.2.2.2.1, (World.cell?_alloc_lt _ _ _ (cell_lt hS.2.2.2.2.1)).trans hS.2.2.2.2.1, (World.cell?_alloc_lt _ _ _ (cell_lt hS.2.2.2.2.2.1)).trans hS.2.2.2.2.2.1, (World.cell?_alloc_lt _ _ _ (cell_lt hS.2.2.2.2.2.2)).trans hS.2.2.2.2.2.2⟩
          have kS := Bk.made w6 52 st0
          have hbc := below_al HBC.out (.cells st0 52)
          have zX := kX.lt
          replace kX := kX.alloc (.cells st0 52)
          refine hK.out _ _ hS2 (fun hS' => ?_)
          clear hS' hK K
          (try simp only [List.getElem_toArray, List.getElem_cons_succ, List.getElem_cons_zero, Act.put, List.setIfInBounds_toArray, List.set_cons_zero, List.set_cons_succ])
          clear hS
          generalize w6.alloc (.cells st0 52) = w7 at *
          generalize w6.heap.size = bS at *
          clear HBC
          refine wpAnyH_ready (rs := [14]) (by kernel_rfl) (by simp) ?_
          refine AllReadyH.cons (o := _) rfl (fun K hK => ?_) AllReadyH.nil
          rw [if_pos (by rfl)]
          refine wp_store_row 52 (.tmp 13) (.tmp 88) rfl bS (stZ who at_ op) rfl rfl 52 st0 kS (by kernel_rfl) rfl (by simp [Value.oneCell']) ?_
          have zP : w.heap.size < bX := by rw [← HBX.out]; exact z0
          have hS3 : Bk (w7.setRow bS (stZ who at_ op)) w.heap.size 27 (playC t (some ⟨bW, oW, none⟩) n c T m d) ∧ Bk (w7.setRow bS (stZ who at_ op)) bX 63 #[.int .i64 (at_ : Nat), .slice G log.length cp] ∧ (w7.setRow bS (stZ who at_ op)).cell? ⟨bW, oW + who, none⟩ = some (.slice (some ⟨bO, oO, none⟩) ops.length cO) ∧ (w7.setRow bS (stZ who at_ op)).cell? ⟨bO, oO + at_ * 4, none⟩ = some (.int .i64 op.kind) ∧ (w7.setRow bS (stZ who at_ op)).cell? ⟨bO, oO + at_ * 4 + 1, none⟩ = some (.int .i64 op.obj) ∧ (w7.setRow bS (stZ who at_ op)).cell? ⟨bO, oO + at_ * 4 + 2, none⟩ = some (.int .i64 op.a) ∧ (w7.setRow bS (stZ who at_ op)).cell? ⟨bO, oO + at_ * 4 + 3, none⟩ = some (.int .i64 op.b) :=
            ⟨(setRow_other _ _ _ _ (by omega)).trans hS2.1, (setRow_other _ _ _ _ (by omega)).trans hS2.2.1, (setRow_cell (by omega)).trans hS2.2.2.1, (setRow_cell (by omega)).trans hS2.2.2.2.1, (setRow_cell (by omega)).trans hS2.2.2.2.2.1, (setRow_cell (by omega)).trans hS2.2.2.2.2.2.1, (setRow_cell (by omega)).trans hS2.2.2.2.2.2.2⟩
          replace kS : Bk (w7.setRow bS (stZ who at_ op)) bS 52 (stZ who at_ op) := setRow_heap _ _ st0 (stZ who at_ op) 52 (0, 0) kS
          replace kX : Bk (w7.setRow bS (stZ who at_ op)) bX 63 #[.int .i64 (at_ : Nat), .slice G log.length cp] := hS3.2.1
          replace hbc := below_setRow hbc (g := bS) (by rw [HBX.out]; omega) (stZ who at_ op)
          refine hK.out _ _ hS3 (fun hS' => ?_)
          clear hS' hK K
          (try simp only [List.getElem_toArray, List.getElem_cons_succ, List.getElem_cons_zero, Act.put])
          clear hS2 hS3
          generalize w7.setRow bS (stZ who at_ op) = w8 at *
          have HBC := Lib.hid hbc
          clear hbc
          refine wpAnyH_done (by kernel_rfl) ?_ _
          have kL := HREP.out.kL.keep HBC.out
          have x0 := kX.cell 1
          have y0 := kS.cell 2
          have y1 := kS.cell 3
          have y2 := kS.cell 4
          have y3 := kS.cell 5
          have zz := kS.lt
          simp at x0 y0 y1 y2 y3
          go_wp2_with (refine wpList_load_row rfl 34 (.tmp 4) rfl bL rfl 34 (lyC l) (0, 0) _ kL Try.underlying34 rfl (by kernel_rfl) ?_)
          clear y0 y1 y2 y3 x0
          have hopr := want_op (who := who) (at_ := at_) (op := op) HW.out.2.2 (by rw [List.getD_eq_getElem?_getD, HO.out]; exact HOP.out)
          have HOPR := Lib.hid hopr
          have hopa : op.a ≤ 9223372036854775807 := hopr.1.2
          have hsl : SlRes w8 w8.heap.size G log := slRes_of_own (base := 0) (cap := cp) (own_keepb HRES.out HBC.out)
          have hlr : ∀ x ∈ log, -9223372036854775808 ≤ x.1 ∧ x.1 ≤ 9223372036854775807 := HXR.out
          (with_reducible refine (next_any l who op G cp log _ HOK.out.fit hopa hsl (by omega) hlr).mono ?_)
          clear hopr hopa hsl hlr
          intro e w9 hpost
          replace hpost := ansPost_of hpost
          obtain ⟨ans, hans⟩ : ∃ a, nextA l op log = a := ⟨_, rfl⟩
          rw [hans] at hpost
          have HANS := Lib.hid hans
          clear hans
          cases ans with
          | out val is err point =>
            obtain ⟨rfl, hb⟩ := hpost
            replace kS := kS.keep hb
            replace kX := kX.keep hb
            have hbc := below_tr HBC.out hb
            clear hb HBC kL zz
            go_upto_region 19 with fail
            have zS9 := kS.lt
            have kO := Bk.new (w9.alloc (.cells accZ 44)) (g := w9.heap.size + 1) (by simp) 50 (outC val is err point)
            replace kS := (kS.alloc (.cells accZ 44)).alloc (.cells (outC val is err point) 50)
            replace kX := (kX.alloc (.cells accZ 44)).alloc (.cells (outC val is err point) 50)
            replace hbc := below_al (below_al hbc (.cells accZ 44)) (.cells (outC val is err point) 50)
            generalize (w9.alloc (.cells accZ 44)).alloc (.cells (outC val is err point) 50) = w10 at *
            generalize w9.heap.size = bA at *
            have y0 := kS.cell 12
            have f0 := kS.free 12
            have l0 := kS.lt
            simp at y0
            go_upto_region 20 with fail
            clear y0 f0 l0
            replace kS : Bk (w10.setCell ⟨bS, 12, none⟩ (.bool true)) bS 52 (stA who at_ op.kind op.obj op.a op.b 0 0 0 0 0 false true 0 false 0 0) := kS.stored 12 (.bool true)
            replace kX := kX.other (p := ⟨bS, 12, none⟩) (by dsimp only; omega) (.bool true)
            replace kO := kO.other (p := ⟨bS, 12, none⟩) (by dsimp only; omega) (.bool true)
            have hbS : wr.heap.size ≤ bS := by rw [HBX.out]; omega
            replace hbc := below_set hbc (p := ⟨bS, 12, none⟩) hbS (.bool true)
            generalize w10.setCell ⟨bS, 12, none⟩ (.bool true) = w11 at *
            have y0 := kS.cell 13
            have y1 := kS.cell 14
            have y2 := kS.cell 15
            have y3 := kS.cell 16
            have y4 := kS.cell 17
            have f0 := kS.free 13
            have f1 := kS.free 14
            have f2 := kS.free 15
            have f3 := kS.free 16
            have f4 := kS.free 17
            have l0 := kS.lt
            have v0 := kO.cell 0
            have v1 := kO.cell 1
            have v2 := kO.cell 2
            have v3 := kO.cell 3
            have v4 := kO.cell 4
            simp at y0 y1 y2 y3 y4 v0 v1 v2 v3 v4
            go_upto_region 21 with fail
            clear y0 y1 y2 y3 y4 v0 v1 v2 v3 v4 f0 f1 f2 f3 f4 l0 kO
            have kS5 := ((((kS.stored 13 (.int .i64 val)).stored 14 (.bool is)).stored 15 (.int .i64 err)).stored 16 (.int .i64 point)).stored 17 (.slice none 0 0)
            replace kX := ((((kX.other (p := ⟨bS, 13, none⟩) (by dsimp only; omega) (.int .i64 val)).other (p := ⟨bS, 14, none⟩) (by dsimp only; omega) (.bool is)).other (p := ⟨bS, 15, none⟩) (by dsimp only; omega) (.int .i64 err)).other (p := ⟨bS, 16, none⟩) (by dsimp only; omega) (.int .i64 point)).other (p := ⟨bS, 17, none⟩) (by dsimp only; omega) (.slice none 0 0)
            replace hbc := below_set (below_set (below_set (below_set (below_set hbc (p := ⟨bS, 13, none⟩) hbS (.int .i64 val)) (p := ⟨bS, 14, none⟩) hbS (.bool is)) (p := ⟨bS, 15, none⟩) hbS (.int .i64 err)) (p := ⟨bS, 16, none⟩) hbS (.int .i64 point)) (p := ⟨bS, 17, none⟩) hbS (.slice none 0 0)
            clear kS
            generalize ((((w11.setCell ⟨bS, 13, none⟩ (.int .i64 val)).setCell ⟨bS, 14, none⟩ (.bool is)).setCell ⟨bS, 15, none⟩ (.int .i64 err)).setCell ⟨bS, 16, none⟩ (.int .i64 point)).setCell ⟨bS, 17, none⟩ (.slice none 0 0) = w12 at *
            have kS : Bk w12 bS 52 (stepC (doneStep who at_ op val is err point)) := kS5
            clear kS5
            have hrep := HREP.out.keep hbc
            obtain ⟨cs', hse⟩ := hrep.seats
            obtain ⟨G', cp', e1, e2, hres⟩ := hse.at_ who _ HX.out
            have c1 := (hse.row.cell (who * 2)).trans e1
            have c2 := (hse.row.cell (who * 2 + 1)).trans e2
            have f1 := hse.row.free (who * 2)
            have f2 := hse.row.free (who * 2 + 1)
            have l1 := hse.row.lt
            have x0 := kX.cell 0
            simp at x0
            have hwl : who < s.seats.length := by rw [HI.out.ns]; exact hwn
            have hrep2 := hrep.seat (who := who) (a := at_ + 1) (log := []) (G := none) (cap := 0) hwl (World.ownsRow_nil _ _ _ _)
            have hbl2 := below_set (below_set (below_tr hbl hbc) (p := ⟨b5 + 1, who * 2, none⟩) (by dsimp only; omega) (.int .i64 ((at_ + 1 : Nat) : Int))) (p := ⟨b5 + 1, who * 2 + 1, none⟩) (by dsimp only; omega) (.slice none 0 0)
            replace kS := (kS.other (p := ⟨b5 + 1, who * 2, none⟩) (by dsimp only; omega) (.int .i64 ((at_ + 1 : Nat) : Int))).other (p := ⟨b5 + 1, who * 2 + 1, none⟩) (by dsimp only; omega) (.slice none 0 0)
            have HR2 := Lib.hid hrep2
            have HB2 := Lib.hid hbl2
            have HKS := Lib.hid kS
            clear hrep hrep2 hbl2 kS e1 e2 hres hse hwl
            go_upto_region 22 with fail
            clear c1 c2 f1 f2 l1 x0 hbc kX
            rw [show ((at_ : Int) + 1) = ((at_ + 1 : Nat) : Int) from rfl]
            have hrep := HR2.out
            have hbl2 := HB2.out
            have kS := HKS.out
            clear HR2 HB2 HKS
            simp only [List.length_nil] at hrep
            generalize (w12.setCell ⟨b5 + 1, who * 2, none⟩ (.int .i64 ((at_ + 1 : Nat) : Int))).setCell ⟨b5 + 1, who * 2 + 1, none⟩ (.slice none 0 0) = w13 at *
            have hturn : turnP l want who s = some ⟨s.m, s.seats.set who (at_ + 1, []), s.out ++ [doneStep who at_ op val is err point]⟩ := by
              unfold turnP
              rw [HX.out]
              dsimp only
              rw [List.getD_eq_getElem?_getD, HO.out, Option.getD_some, HOP.out]
              dsimp only
              rw [HANS.out]
            have HT := Lib.hid (runP_snoc HRUN.out hturn)
            have hol : s.out.length ≤ 400 := by have := HI.out.ol; omega
            obtain ⟨i0, hi0, hz0, hz1, hz2⟩ := info_parts step_info
            have hrep3 := hrep.keep (below_al (Below.refl _ _) (.cells (stepC (doneStep who at_ op val is err point)) 52))
            have hbl3 := below_al hbl2 (.cells (stepC (doneStep who at_ op val is err point)) 52)
            have hrow := hrep3.out
            have HR3 := Lib.hid hrep3
            have HB3 := Lib.hid hbl3
            clear hturn hrep hrep3 hbl3
            go_wp2_with (first
              | (refine wpList_load_row rfl 52 (.tmp 13) rfl bS rfl 52 (stepC (doneStep who at_ op val is err point)) (0, 0) _ kS Try.underlying52 rfl (by kernel_rfl) ?_)
              | (at_builtin; go_must (refine wpList_append_own_at _ rfl (.tmp 111) (.tmp 113) _ rfl w.heap.size 52 i0 _ 18 160 Try.underlying36 hi0 hz0 hz1 hz2 rfl (by omega) u8 s.out.length (stepCells s.out) rfl hrow ⟨w13.heap.size, 0, none⟩ 1 1 (stepC (doneStep who at_ op val is err point)).toList rfl rfl (step_news w13 _ rfl) (by simp [Value.oneCell']) (by simp only [maxLen]; omega) (by omega) (by simp; have := hbl2.size; omega) ?_; intro v9 w15 hrow4 hgrow4 _ _)))
            refine ⟨⟨k + 1, _, by rw [HLEN.out]; omega, by go_num, ?_, ?_, HR3.out.push hgrow4 hrow4⟩, by rw [HLEN.out]; simp [intOf]; omega⟩
            · exact grown_below HB3.out hrow hgrow4 HB3.out.size (Nat.le_refl _)
            · rw [List.take_add_one, HWHO.out]
              exact HT.out
          | ask kk cc oo vv =>
            obtain ⟨rfl, hb⟩ := hpost
            replace kS := kS.keep hb
            replace kX := kX.keep hb
            have hbc := below_tr HBC.out hb
            clear hb HBC kL zz
            go_upto_region 23 with fail
            have zS9 := kS.lt
            have kA := (Bk.made w9 44 (accC kk cc oo vv)).alloc (.cells outZ 50)
            replace kS := (kS.alloc (.cells (accC kk cc oo vv) 44)).alloc (.cells outZ 50)
            replace kX := (kX.alloc (.cells (accC kk cc oo vv) 44)).alloc (.cells outZ 50)
            replace hbc := below_al (below_al hbc (.cells (accC kk cc oo vv) 44)) (.cells outZ 50)
            generalize (w9.alloc (.cells (accC kk cc oo vv) 44)).alloc (.cells outZ 50) = w10 at *
            generalize w9.heap.size = bA at *
            have hbS : wr.heap.size ≤ bS := by rw [HBX.out]; omega
            have hrep := HREP.out.keep hbc
            obtain ⟨gm, cm, k5, hom⟩ := hrep.mem
            have hml : s.m.length ≤ 1000 := by rw [HI.out.ml, beginM_length]; have := HOK.out.s1; omega
            have v0 := kA.cell 0
            have v1 := kA.cell 1
            have v2 := kA.cell 2
            have v3 := kA.cell 3
            have q5 := k5.cell 0
            simp at v0 v1 v2 v3 q5
            clear hrep
            go_wp2_with fail
            clear v0 v1 v2 v3 q5
            by_cases he : (⟨kk, cc, oo, vv⟩ : Acc).err s.m.length = 0
            · have hsl := own_sl hom rfl
              (with_reducible refine (do_ok (some ⟨gm, 0, none⟩) cm s.m ⟨kk, cc, oo, vv⟩ _ hsl (by omega) he).mono ?_)
              rintro e w11 ⟨g2, cap2, rfl, hown2, hb⟩
              replace hbc := below_tr hbc hb
              replace kS := kS.keep hb
              replace kX := kX.keep hb
              replace kA := kA.keep hb
              replace k5 := k5.keep hb
              replace hown2 : OwnInts w11 0 (.slice (some ⟨g2, 0, none⟩) s.m.length cap2) ((⟨kk, cc, oo, vv⟩ : Acc).make s.m) := own_lower hown2 (Nat.zero_le _)
              have hlm := Acc.make_length ⟨kk, cc, oo, vv⟩ s.m
              have hturn : turnP l want who s = some ⟨(⟨kk, cc, oo, vv⟩ : Acc).make s.m, s.seats.set who (at_, log ++ [((⟨kk, cc, oo, vv⟩ : Acc).had s.m, (⟨kk, cc, oo, vv⟩ : Acc).ok ((⟨kk, cc, oo, vv⟩ : Acc).had s.m))]), s.out ++ [askStep who at_ op ⟨kk, cc, oo, vv⟩ ((⟨kk, cc, oo, vv⟩ : Acc).had s.m, (⟨kk, cc, oo, vv⟩ : Acc).ok ((⟨kk, cc, oo, vv⟩ : Acc).had s.m))]⟩ := by
                unfold turnP
                rw [HX.out]
                dsimp only
                rw [List.getD_eq_getElem?_getD, HO.out, Option.getD_some, HOP.out]
                dsimp only
                rw [HANS.out]
                exact if_pos he
              have hrs := runP_snoc HRUN.out hturn
              clear hb hturn hsl hom he
              generalize (⟨kk, cc, oo, vv⟩ : Acc).make s.m = m' at *
              generalize (⟨kk, cc, oo, vv⟩ : Acc).had s.m = had at *
              generalize (⟨kk, cc, oo, vv⟩ : Acc).ok had = gok at *
              have HT := Lib.hid hrs
              have HLM := Lib.hid hlm
              clear hrs hlm
              go_upto_region 26 with fail
              have zA := kA.lt
              have kN := (Bk.made w11 39 #[.slice (some ⟨g2, 0, none⟩) s.m.length cap2]).alloc (.cells #[.int .i64 had, .bool gok] 46)
              have kR := Bk.new (w11.alloc (.cells #[.slice (some ⟨g2, 0, none⟩) s.m.length cap2] 39)) (g := w11.heap.size + 1) (by simp) 46 #[.int .i64 had, .bool gok]
              replace kS := (kS.alloc (.cells #[.slice (some ⟨g2, 0, none⟩) s.m.length cap2] 39)).alloc (.cells #[.int .i64 had, .bool gok] 46)
              replace kX := (kX.alloc (.cells #[.slice (some ⟨g2, 0, none⟩) s.m.length cap2] 39)).alloc (.cells #[.int .i64 had, .bool gok] 46)
              replace kA := (kA.alloc (.cells #[.slice (some ⟨g2, 0, none⟩) s.m.length cap2] 39)).alloc (.cells #[.int .i64 had, .bool gok] 46)
              replace k5 := (k5.alloc (.cells #[.slice (some ⟨g2, 0, none⟩) s.m.length cap2] 39)).alloc (.cells #[.int .i64 had, .bool gok] 46)
              replace hbc := below_al (below_al hbc (.cells #[.slice (some ⟨g2, 0, none⟩) s.m.length cap2] 39)) (.cells #[.int .i64 had, .bool gok] 46)
              replace hown2 := (hown2.alloc (.cells #[.slice (some ⟨g2, 0, none⟩) s.m.length cap2] 39)).alloc (.cells #[.int .i64 had, .bool gok] 46)
              generalize (w11.alloc (.cells #[.slice (some ⟨g2, 0, none⟩) s.m.length cap2] 39)).alloc (.cells #[.int .i64 had, .bool gok] 46) = w12 at *
              generalize w11.heap.size = bN at *
              have q5 := k5.cell 0
              have f5 := k5.free 0
              have l5 := k5.lt
              have v0 := kN.cell 0
              simp at q5 v0
              go_upto_region 27 with fail
              clear q5 f5 l5 v0 kN
              have st := (Stp.of_below b5 hbc).trans (Stp.set w12 b5 0 (.slice (some ⟨g2, 0, none⟩) s.m.length cap2))
              replace hown2 := hown2.far (p := ⟨b5, 0, none⟩) (own_ne hown2 k5 (by decide)) (.slice (some ⟨g2, 0, none⟩) s.m.length cap2)
              replace k5 : Bk (w12.setCell ⟨b5, 0, none⟩ (.slice (some ⟨g2, 0, none⟩) s.m.length cap2)) b5 39 #[.slice (some ⟨g2, 0, none⟩) s.m.length cap2] := k5.stored 0 (.slice (some ⟨g2, 0, none⟩) s.m.length cap2)
              replace kS := kS.other (p := ⟨b5, 0, none⟩) (by dsimp only; omega) (.slice (some ⟨g2, 0, none⟩) s.m.length cap2)
              replace kX := kX.other (p := ⟨b5, 0, none⟩) (by dsimp only; omega) (.slice (some ⟨g2, 0, none⟩) s.m.length cap2)
              replace kA := kA.other (p := ⟨b5, 0, none⟩) (by dsimp only; omega) (.slice (some ⟨g2, 0, none⟩) s.m.length cap2)
              replace kR := kR.other (p := ⟨b5, 0, none⟩) (by dsimp only; omega) (.slice (some ⟨g2, 0, none⟩) s.m.length cap2)
              clear hbc
              generalize w12.setCell ⟨b5, 0, none⟩ (.slice (some ⟨g2, 0, none⟩) s.m.length cap2) = w13 at *
              have hgS : bS ≠ g2 := own_ne hown2 kS (by decide)
              have y0 := kS.cell 6
              have f0 := kS.free 6
              have y1 := kS.cell 7
              have f1 := kS.free 7
              have y2 := kS.cell 8
              have f2 := kS.free 8
              have y3 := kS.cell 9
              have f3 := kS.free 9
              have l0 := kS.lt
              have v0 := kA.cell 0
              have v1 := kA.cell 1
              have v2 := kA.cell 2
              have v3 := kA.cell 3
              simp at y0 y1 y2 y3 v0 v1 v2 v3
              go_upto_region 28 with fail
              clear l0 y0 f0 y1 f1 y2 f2 y3 f3 v0 v1 v2 v3
              replace hown2 := ((((hown2.far (p := ⟨bS, 6, none⟩) hgS (.int .i64 kk)).far (p := ⟨bS, 7, none⟩) hgS (.int .i64 cc)).far (p := ⟨bS, 8, none⟩) hgS (.int .i64 oo)).far (p := ⟨bS, 9, none⟩) hgS (.int .i64 vv))
              replace st := ((((st.far (p := ⟨bS, 6, none⟩) hbS (.int .i64 kk)).far (p := ⟨bS, 7, none⟩) hbS (.int .i64 cc)).far (p := ⟨bS, 8, none⟩) hbS (.int .i64 oo)).far (p := ⟨bS, 9, none⟩) hbS (.int .i64 vv))
              replace kX := ((((kX.other (p := ⟨bS, 6, none⟩) (by dsimp only; omega) (.int .i64 kk)).other (p := ⟨bS, 7, none⟩) (by dsimp only; omega) (.int .i64 cc)).other (p := ⟨bS, 8, none⟩) (by dsimp only; omega) (.int .i64 oo)).other (p := ⟨bS, 9, none⟩) (by dsimp only; omega) (.int .i64 vv))
              replace k5 := ((((k5.other (p := ⟨bS, 6, none⟩) (by dsimp only; omega) (.int .i64 kk)).other (p := ⟨bS, 7, none⟩) (by dsimp only; omega) (.int .i64 cc)).other (p := ⟨bS, 8, none⟩) (by dsimp only; omega) (.int .i64 oo)).other (p := ⟨bS, 9, none⟩) (by dsimp only; omega) (.int .i64 vv))
              replace kR := ((((kR.other (p := ⟨bS, 6, none⟩) (by dsimp only; omega) (.int .i64 kk)).other (p := ⟨bS, 7, none⟩) (by dsimp only; omega) (.int .i64 cc)).other (p := ⟨bS, 8, none⟩) (by dsimp only; omega) (.int .i64 oo)).other (p := ⟨bS, 9, none⟩) (by dsimp only; omega) (.int .i64 vv))
              replace kA := ((((kA.other (p := ⟨bS, 6, none⟩) (by dsimp only; omega) (.int .i64 kk)).other (p := ⟨bS, 7, none⟩) (by dsimp only; omega) (.int .i64 cc)).other (p := ⟨bS, 8, none⟩) (by dsimp only; omega) (.int .i64 oo)).other (p := ⟨bS, 9, none⟩) (by dsimp only; omega) (.int .i64 vv))
              have kS5 := ((((kS.stored 6 (.int .i64 kk)).stored 7 (.int .i64 cc)).stored 8 (.int .i64 oo)).stored 9 (.int .i64 vv))
              clear kS
              generalize ((((w13.setCell ⟨bS, 6, none⟩ (.int .i64 kk)).setCell ⟨bS, 7, none⟩ (.int .i64 cc)).setCell ⟨bS, 8, none⟩ (.int .i64 oo)).setCell ⟨bS, 9, none⟩ (.int .i64 vv)) = w14 at *
              have kS : Bk w14 bS 52 (stA who at_ op.kind op.obj op.a op.b kk cc oo vv 0 false false 0 false 0 0) := kS5
              clear kS5
              have y0 := kS.cell 10
              have f0 := kS.free 10
              have y1 := kS.cell 11
              have f1 := kS.free 11
              have l0 := kS.lt
              have v0 := kR.cell 0
              have v1 := kR.cell 1
              simp at y0 y1 v0 v1
              go_upto_region 29 with fail
              clear l0 y0 f0 y1 f1 v0 v1
              replace hown2 := ((hown2.far (p := ⟨bS, 10, none⟩) hgS (.int .i64 had)).far (p := ⟨bS, 11, none⟩) hgS (.bool gok))
              replace st := ((st.far (p := ⟨bS, 10, none⟩) hbS (.int .i64 had)).far (p := ⟨bS, 11, none⟩) hbS (.bool gok))
              replace kX := ((kX.other (p := ⟨bS, 10, none⟩) (by dsimp only; omega) (.int .i64 had)).other (p := ⟨bS, 11, none⟩) (by dsimp only; omega) (.bool gok))
              replace k5 := ((k5.other (p := ⟨bS, 10, none⟩) (by dsimp only; omega) (.int .i64 had)).other (p := ⟨bS, 11, none⟩) (by dsimp only; omega) (.bool gok))
              replace kR := ((kR.other (p := ⟨bS, 10, none⟩) (by dsimp only; omega) (.int .i64 had)).other (p := ⟨bS, 11, none⟩) (by dsimp only; omega) (.bool gok))
              have kS5 := ((kS.stored 10 (.int .i64 had)).stored 11 (.bool gok))
              clear kS
              generalize ((w14.setCell ⟨bS, 10, none⟩ (.int .i64 had)).setCell ⟨bS, 11, none⟩ (.bool gok)) = w15 at *
              have kS : Bk w15 bS 52 (stepC (askStep who at_ op ⟨kk, cc, oo, vv⟩ (had, gok))) := kS5
              clear kS5
              have hrep := HREP.out.memory st (by omega) HLM.out k5 hown2
              have hbl2 := st.below (by omega) hbl
              obtain ⟨_, _, k5c, _⟩ := HREP.out.mem
              have hres := own_keptT HRES.out (keptT_stp k5c st) (by decide)
              clear st k5 hown2 kA k5c
              have hol : s.out.length ≤ 400 := by have := HI.out.ol; omega
              obtain ⟨i0, hi0, hz0, hz1, hz2⟩ := info_parts step_info
              have hrep3 := hrep.keep (below_al (Below.refl _ _) (.cells (stepC (askStep who at_ op ⟨kk, cc, oo, vv⟩ (had, gok))) 52))
              have hbl3 := below_al hbl2 (.cells (stepC (askStep who at_ op ⟨kk, cc, oo, vv⟩ (had, gok))) 52)
              have kX3 := kX.alloc (.cells (stepC (askStep who at_ op ⟨kk, cc, oo, vv⟩ (had, gok))) 52)
              have kR3 := kR.alloc (.cells (stepC (askStep who at_ op ⟨kk, cc, oo, vv⟩ (had, gok))) 52)
              have HRES3 := Lib.hid (World.ownsRow.alloc hres (.cells (stepC (askStep who at_ op ⟨kk, cc, oo, vv⟩ (had, gok))) 52))
              have hrow := hrep3.out
              have HR3 := Lib.hid hrep3
              have HB3 := Lib.hid hbl3
              clear hrep hrep3 hbl3 hres
              go_upto_region 30 with (first
                | (refine wpList_load_row rfl 52 (.tmp 13) rfl bS rfl 52 (stepC (askStep who at_ op ⟨kk, cc, oo, vv⟩ (had, gok))) (0, 0) _ kS Try.underlying52 rfl (by kernel_rfl) ?_)
                | (at_builtin; go_must (refine wpList_append_own_at _ rfl (.tmp 131) (.tmp 133) _ rfl w.heap.size 52 i0 _ 18 160 Try.underlying36 hi0 hz0 hz1 hz2 rfl (by omega) u8 s.out.length (stepCells s.out) rfl hrow ⟨w15.heap.size, 0, none⟩ 1 1 (stepC (askStep who at_ op ⟨kk, cc, oo, vv⟩ (had, gok))).toList rfl rfl (step_news w15 _ rfl) (by simp [Value.oneCell']) (by simp only [maxLen]; omega) (by omega) (by simp; have := hbl2.size; omega) ?_; intro v9 w17 hrow4 hgrow4 _ _)))
              have hrep := HR3.out.push hgrow4 hrow4
              replace hbl2 := grown_below HB3.out hrow hgrow4 HB3.out.size (Nat.le_refl _)
              have hk := keptT_grown hrow hgrow4
              replace kX := kX3.keptT hk (by decide)
              replace kR := kR3.keptT hk (by decide)
              have hres : OwnRes w17 0 (.slice G log.length cp) log := own_keptT HRES3.out hk (by decide)
              clear hk hrow hrow4 hgrow4 HR3 HB3 kX3 kR3 kS HRES3
              have HR := Lib.hid hrep
              have HB := Lib.hid hbl2
              clear hrep hbl2
              refine log30 _ _ _ _ _ _ _ _ _ _ _ _ _ _ _ _ _ _ _ _ _ _ _ _ _ _ _ _ _ _ _ _ _ _ _ _ _ _ _ _ _ _ _ _ _ _ _ _ _ _ _ _ _ _ _ _ _ _ _ _ _ _ _ _ _ _ _ _ _ _ _ _ _ _ _ _ _ _ _ _ _ _ _ _ _ _ _ _ _ _ _ _ _ _ _ _ _ _ _ _ _ _ _ _ _ _ _ _ _ _ _ _ _ _ _ _ _ _ _ _ _ _ _ _ _ _ _ _ _ _ _ _ _ _ _ _ _ _ _ _ _ _ _ _ _ _ _ w17 bX (bN + 1) at_ G cp log had gok (fun _ _ _ _ _ h => h) (by omega) hxl kX kR hres ?_
              intro G2 cp2 w18 x0 x1 x2 x3 x4 x5 x6 x7 st kX2 hres2
              have hrep := HR.out.aside kX st (by omega)
              have hbl2 := st.below (by omega) HB.out
              clear st kX kR hres HR HB
              obtain ⟨cs', hse⟩ := hrep.seats
              obtain ⟨G', cp', e1, e2, hres'⟩ := hse.at_ who _ HX.out
              have c1 := (hse.row.cell (who * 2)).trans e1
              have c2 := (hse.row.cell (who * 2 + 1)).trans e2
              have f1 := hse.row.free (who * 2)
              have f2 := hse.row.free (who * 2 + 1)
              have l1 := hse.row.lt
              have y0 := kX2.cell 0
              have y1 := kX2.cell 1
              have l2 := kX2.lt
              simp at y0 y1
              have hwl : who < s.seats.length := by rw [HI.out.ns]; exact hwn
              have hlg : (log ++ [(had, gok)]).length = log.length + 1 := by simp
              rw [← hlg] at hres2
              have hrep2 := hrep.seat (who := who) (a := at_) hwl hres2
              rw [hlg] at hrep2
              have hbl3 := below_set (below_set hbl2 (p := ⟨b5 + 1, who * 2, none⟩) (by dsimp only; omega) (.int .i64 (at_ : Nat))) (p := ⟨b5 + 1, who * 2 + 1, none⟩) (by dsimp only; omega) (.slice G2 (log.length + 1) cp2)
              have HR2 := Lib.hid hrep2
              have HB3 := Lib.hid hbl3
              clear hrep hrep2 hbl3 hbl2 e1 e2 hres' hse hwl hlg hres2
              go_wp2_with fail
              refine ⟨⟨k + 1, _, by rw [HLEN.out]; omega, by go_num, HB3.out, ?_, HR2.out⟩, by rw [HLEN.out]; simp [intOf]; omega⟩
              rw [List.take_add_one, HWHO.out]
              exact HT.out
            · (with_reducible refine (do_bad (some ⟨gm, 0, none⟩) cm s.m.length ⟨kk, cc, oo, vv⟩ _ he).mono ?_)
              rintro e w11 ⟨rfl, hb⟩
              have hstop : runP l want (startP l n (beginM l)) (whosP n turns) = (s, true) := by
                have hturn : turnP l want who s = none := by
                  unfold turnP
                  rw [HX.out]
                  dsimp only
                  rw [List.getD_eq_getElem?_getD, HO.out, Option.getD_some, HOP.out]
                  dsimp only
                  rw [HANS.out]
                  exact if_neg he
                have := runP_stop (ws' := (whosP n turns).drop (k + 1)) HRUN.out hturn
                rwa [← drop_cons_of HWHO.out, List.take_append_drop] at this
              have hsF : s = sF := by rw [← HF.out, hstop]
              subst hsF
              clear hstop
              have hne : ((⟨kk, cc, oo, vv⟩ : Acc).err s.m.length != 0) = true := by simpa using he
              generalize (⟨kk, cc, oo, vv⟩ : Acc).err s.m.length = er at *
              have hrep := (HREP.out.keep hbc).keep hb
              have hbl2 := below_tr (below_tr hbl hbc) hb
              clear hb hbc kS kX kA hom k5 he
              go_upto_region 25 with fail
              replace hrep := hrep.keep (below_al (below_al (Below.refl _ _) (.cells #[.slice (some ⟨gm, 0, none⟩) s.m.length cm] 39)) (.cells #[.int .i64 0, .bool false] 46))
              replace hbl2 := below_al (below_al hbl2 (.cells #[.slice (some ⟨gm, 0, none⟩) s.m.length cm] 39)) (.cells #[.int .i64 0, .bool false] 46)
              obtain ⟨A8, cp8, rfl⟩ := own_slice hrep.out
              obtain ⟨gm', cm', k5, hom'⟩ := hrep.mem
              have k3 := hrep.k3
              have hout := hrep.out
              have ne35 : b5 ≠ w.heap.size + 1 := by omega
              refine wp_region_held_drew (S := fun w' => Bk w' b5 39 #[.slice (some ⟨gm', 0, none⟩) s.m.length cm']) (by kernel_rfl) k5.drew (fun hHeld => ?_)
              clear hHeld
              replace k3 := k3.drew
              replace k5 := k5.drew
              replace hbl2 := below_drew hbl2
              replace hom' := own_drew hom'
              replace hout : ((w11.alloc (.cells #[.slice (some ⟨gm, 0, none⟩) s.m.length cm] 39)).alloc (.cells #[.int .i64 0, .bool false] 46)).drew.ownsRow w.heap.size 52 18 (.slice A8 s.out.length cp8) s.out.length (stepCells s.out) := hout
              clear hrep
              generalize ((w11.alloc (.cells #[.slice (some ⟨gm, 0, none⟩) s.m.length cm] 39)).alloc (.cells #[.int .i64 0, .bool false] 46)).drew = w20 at *
              refine wpAnyH_take (i := 0) (oi := _) (v := .slice A8 s.out.length cp8) rfl (by kernel_rfl) (by kernel_rfl) (by kernel_rfl) (fun _ _ _ h => h) (Or.inl ⟨by rfl, ?_⟩) k5 ?_
              · intro w' hSw
                (try simp only [List.getElem_toArray, List.getElem_cons_zero])
                go_simp
              (try simp only [List.getElem_toArray, List.getElem_cons_zero, Act.put, List.setIfInBounds_toArray, List.set_cons_zero, List.set_cons_succ])
              refine wpAnyH_take (i := 1) (oi := _) (v := .agg #[.slice (some ⟨gm', 0, none⟩) s.m.length cm']) rfl (by kernel_rfl) (by kernel_rfl) (by kernel_rfl) (fun _ _ _ h => h) (Or.inl ⟨by rfl, ?_⟩) k5 ?_
              · intro w' hSw
                have s1 := hSw.cell 0
                simp at s1
                (try simp only [List.getElem_toArray, List.getElem_cons_succ, List.getElem_cons_zero])
                go_simp
              (try simp only [List.getElem_toArray, List.getElem_cons_succ, List.getElem_cons_zero, Act.put, List.setIfInBounds_toArray, List.set_cons_zero, List.set_cons_succ])
              refine wpAnyH_take (i := 2) (oi := _) (v := .slice A8 s.out.length cp8) rfl (by kernel_rfl) (by kernel_rfl) (by kernel_rfl) (fun _ _ _ h => h) (Or.inl ⟨by rfl, ?_⟩) k5 ?_
              · intro w' hSw
                (try simp only [List.getElem_toArray, List.getElem_cons_succ, List.getElem_cons_zero])
                go_simp
              (try simp only [List.getElem_toArray, List.getElem_cons_succ, List.getElem_cons_zero, Act.put, List.setIfInBounds_toArray, List.set_cons_zero, List.set_cons_succ])
              have q3 := k3.cell 0
              have f3 := k3.free 0
              have l3 := k3.lt
              simp at q3
              refine wpAnyH_ready (rs := [3]) (by kernel_rfl) (by simp) ?_
              refine AllReadyH.cons (o := _) rfl (fun K hK => ?_) AllReadyH.nil
              (try simp only [List.getElem_toArray, List.getElem_cons_succ, List.getElem_cons_zero])
              go_simp
              have hh := own_ne hom' k3 (by decide)
              have kk3 := k3.stored 0 (.slice (some ⟨gm', 0, none⟩) s.m.length cm')
              replace k5 := k5.other (p := ⟨w.heap.size + 1, 0, none⟩) ne35 (.slice (some ⟨gm', 0, none⟩) s.m.length cm')
              refine hK.out _ _ k5 (fun hS' => ?_)
              clear hS' hK K
              (try simp only [List.getElem_toArray, List.getElem_cons_succ, List.getElem_cons_zero, Act.put, List.setIfInBounds_toArray, List.set_cons_zero, List.set_cons_succ])
              refine wpAnyH_done (by kernel_rfl) ?_ _
              clear q3 f3
              have hk := keptT_set k3 0 (.slice (some ⟨gm', 0, none⟩) s.m.length cm')
              have q3 := kk3.cell 0
              simp at q3
              have HB := Lib.hid (And.intro (below_set hbl2 (p := ⟨w.heap.size + 1, 0, none⟩) (by dsimp only; omega) (.slice (some ⟨gm', 0, none⟩) s.m.length cm')) (And.intro (own_keptT hout hk (by decide)) (own_keptT hom' hk (by decide))))
              clear hk kk3 k3 k5 hout hom' hbl2
              go_wp2
              exact bodyPost_ret (v := .tuple #[.slice A8 s.out.length cp8, memV (some ⟨gm', 0, none⟩) s.m.length cm']) (by simp [results, Try.results9, go_sem, q3]) rfl ⟨A8, cp8, gm', cm', rfl, HB.out.2.1, HB.out.2.2, HB.out.1⟩
    · obtain rfl : k = m + n * 60 := by omega
      have hsF : s = sF := by
        have h1 := HRUN.out
        rw [List.take_of_length_le (by rw [HLEN.out]; exact Nat.le_refl _)] at h1
        rw [← HF.out, h1]
      subst hsF
      have i0 : decide (((m + n * 60 : Nat) : Int) < m + n * 60) = false := by simp
      have hbl2 := hbl
      clear kP q2
      go_upto_region 32 with fail
      obtain ⟨A8, cp8, rfl⟩ := own_slice hrep.out
      obtain ⟨gm', cm', k5, hom'⟩ := hrep.mem
      have k3 := hrep.k3
      have hout := hrep.out
      have ne35 : b5 ≠ w.heap.size + 1 := by omega
      refine wp_region_held_drew (S := fun w' => Bk w' b5 39 #[.slice (some ⟨gm', 0, none⟩) s.m.length cm']) (by kernel_rfl) k5.drew (fun hHeld => ?_)
      clear hHeld
      replace k3 := k3.drew
      replace k5 := k5.drew
      replace hbl2 := below_drew hbl2
      replace hom' := own_drew hom'
      replace hout : (wr).drew.ownsRow w.heap.size 52 18 (.slice A8 s.out.length cp8) s.out.length (stepCells s.out) := hout
      clear hrep
      generalize (wr).drew = w20 at *
      refine wpAnyH_take (i := 0) (oi := _) (v := .slice A8 s.out.length cp8) rfl (by kernel_rfl) (by kernel_rfl) (by kernel_rfl) (fun _ _ _ h => h) (Or.inl ⟨by rfl, ?_⟩) k5 ?_
      · intro w' hSw
        (try simp only [List.getElem_toArray, List.getElem_cons_zero])
        go_simp
      (try simp only [List.getElem_toArray, List.getElem_cons_zero, Act.put, List.setIfInBounds_toArray, List.set_cons_zero, List.set_cons_succ])
      refine wpAnyH_take (i := 1) (oi := _) (v := .agg #[.slice (some ⟨gm', 0, none⟩) s.m.length cm']) rfl (by kernel_rfl) (by kernel_rfl) (by kernel_rfl) (fun _ _ _ h => h) (Or.inl ⟨by rfl, ?_⟩) k5 ?_
      · intro w' hSw
        have s1 := hSw.cell 0
        simp at s1
        (try simp only [List.getElem_toArray, List.getElem_cons_succ, List.getElem_cons_zero])
        go_simp
      (try simp only [List.getElem_toArray, List.getElem_cons_succ, List.getElem_cons_zero, Act.put, List.setIfInBounds_toArray, List.set_cons_zero, List.set_cons_succ])
      refine wpAnyH_take (i := 2) (oi := _) (v := .slice A8 s.out.length cp8) rfl (by kernel_rfl) (by kernel_rfl) (by kernel_rfl) (fun _ _ _ h => h) (Or.inl ⟨by rfl, ?_⟩) k5 ?_
      · intro w' hSw
        (try simp only [List.getElem_toArray, List.getElem_cons_succ, List.getElem_cons_zero])
        go_simp
      (try simp only [List.getElem_toArray, List.getElem_cons_succ, List.getElem_cons_zero, Act.put, List.setIfInBounds_toArray, List.set_cons_zero, List.set_cons_succ])
      have q3 := k3.cell 0
      have f3 := k3.free 0
      have l3 := k3.lt
      simp at q3
      refine wpAnyH_ready (rs := [3]) (by kernel_rfl) (by simp) ?_
      refine AllReadyH.cons (o := _) rfl (fun K hK => ?_) AllReadyH.nil
      (try simp only [List.getElem_toArray, List.getElem_cons_succ, List.getElem_cons_zero])
      go_simp
      have hh := own_ne hom' k3 (by decide)
      have kk3 := k3.stored 0 (.slice (some ⟨gm', 0, none⟩) s.m.length cm')
      replace k5 := k5.other (p := ⟨w.heap.size + 1, 0, none⟩) ne35 (.slice (some ⟨gm', 0, none⟩) s.m.length cm')
      refine hK.out _ _ k5 (fun hS' => ?_)
      clear hS' hK K
      (try simp only [List.getElem_toArray, List.getElem_cons_succ, List.getElem_cons_zero, Act.put, List.setIfInBounds_toArray, List.set_cons_zero, List.set_cons_succ])
      refine wpAnyH_done (by kernel_rfl) ?_ _
      clear q3 f3
      have hk := keptT_set k3 0 (.slice (some ⟨gm', 0, none⟩) s.m.length cm')
      have q3 := kk3.cell 0
      simp at q3
      have HB := Lib.hid (And.intro (below_set hbl2 (p := ⟨w.heap.size + 1, 0, none⟩) (by dsimp only; omega) (.slice (some ⟨gm', 0, none⟩) s.m.length cm')) (And.intro (own_keptT hout hk (by decide)) (own_keptT hom' hk (by decide))))
      clear hk kk3 k3 k5 hout hom' hbl2
      go_wp2
      exact bodyPost_ret (v := .tuple #[.slice A8 s.out.length cp8, memV (some ⟨gm', 0, none⟩) s.m.length cm']) (by simp [results, Try.results9, go_sem, q3]) rfl ⟨A8, cp8, gm', cm', rfl, HB.out.2.1, HB.out.2.2, HB.out.1⟩
end Go.Proofs.Ytcjaomiihajjbaa
