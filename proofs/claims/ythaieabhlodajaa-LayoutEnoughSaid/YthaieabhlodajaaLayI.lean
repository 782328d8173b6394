/- layout.For for a number of seats below nothing: there is no such conf. -/
import Derived.Test.YthaieabhlodajaaLayG
namespace Go.Proofs.Ythaieabhlodajaa
open Go.RowKit
attribute [local go_sem ↓] Go.wp_at_zero Go.wp_at_succ

set_option maxRecDepth 100000 in
set_option maxHeartbeats 16000000 in
theorem for_neg (c : Cd) (el : El) (U : Option Addr) (uc : Nat) (l : List Us) (s : Int) (w : World) (hl : SlUse w w.heap.size U l) (hm : l.length ≤ 100000) (hs : s < 0) :
    Calls Try.prog 12 #[.agg (cdC c), .agg (elC el U l.length uc), .int .i64 s] w (ForPost zeroCf 1 w) := by
  obtain ⟨qd, hqd⟩ : ∃ q, IntKind.i64.wrap (s.tdiv 2) = q := ⟨_, rfl⟩
  obtain ⟨T, hT⟩ : ∃ T, max el.tasks 1 = T := ⟨_, rfl⟩
  have hmax : ∀ (w : World) (ts : Array TypeId) (t : TypeId), (Builtin.max_ ts t #[.int .i64 el.tasks, .int .i64 1]).run Try.prog w = .ok (.int .i64 T) w := fun w ts t => by
    rw [run_max_int2]
    congr 2
    split <;> omega
  clear hT
  have HU := Lib.hid hl
  clear hl
  go_enter Try.func12, Try.ntmps12
  go_wp2_with fail
  go_loopw [8, 9, 11, 17, 18, 19, 20, 21, 22, 23, 24, 25, 26, 27, 28, 29, 30, 31, 32, 33, 34, 35, 36, 37, 38, 39, 40, 41, 42, 43, 44, 45, 46, 47, 48, 49, 50, 51, 52, 53, 54, 55, 56, 57] (fun p o _ i _ _ _ _ _ _ _ _ _ _ _ _ _ _ _ _ _ _ _ _ _ _ _ _ _ _ _ _ _ _ _ _ _ _ _ _ _ _ _ _ wr => UseRel w l c el U uc w.heap.size p o i wr) (fun p o _ i _ _ _ _ _ _ _ _ _ _ _ _ _ _ _ _ _ _ _ _ _ _ _ _ _ _ _ _ _ _ _ _ _ _ _ _ _ _ _ _ _ => l.length - (intOf i).toNat)
  case atStart => exact ⟨0, Nat.zero_le _, rfl, rfl, rfl, below_al (below_al (below_al (Below.refl _ _) _) _) _, ((Bk.made w _ _).alloc _).alloc _, (Bk.new _ (by simp) _ _).alloc _, Bk.new _ (by simp) _ _⟩
  case round =>
    obtain ⟨k, hk, rfl, rfl, rfl, hbl, k0, k1, k2⟩ := hrel
    have pb := putsN_bd l k
    have ob := othersN_bd l k
    by_cases hlt : k < l.length
    · obtain ⟨b, o, hB, hbb, hcc⟩ := (HU.out.below hbl) (by omega)
      subst hB
      obtain ⟨u, hu⟩ : ∃ u, l[k]? = some u := ⟨_, List.getElem?_eq_getElem hlt⟩
      have hst := count_step l k u hu
      have d0 := hcc k u hu 0 _ rfl
      have d1 := hcc k u hu 1 _ rfl
      have d2 := hcc k u hu 2 _ rfl
      have d3 := hcc k u hu 3 _ rfl
      have d4 := hcc k u hu 4 _ rfl
      have d5 := hcc k u hu 5 _ rfl
      have d6 := hcc k u hu 6 _ rfl
      have d7 := hcc k u hu 7 _ rfl
      have d8 := hcc k u hu 8 _ rfl
      have d9 := hcc k u hu 9 _ rfl
      rw [Nat.add_zero] at d0
      have i1 : (k : Int) < l.length := by omega
      have hb2 : b < wr.heap.size := Nat.lt_of_lt_of_le hbb hbl.size
      have HX := Lib.hid (And.intro hbl (And.intro k0 (And.intro k1 k2)))
      clear hcc hu hbl k0 k1 k2
      rcases use_cases u with ⟨e1, e2, g1, g2⟩ | ⟨e1, e2, g1, g2, g3, g4⟩ | ⟨e1, e2, g1, g2, g3⟩ | ⟨e1, e2, g1, g2, g3, g4⟩ | ⟨e1, e2, g1, g2, g3, g4⟩ | ⟨e1, e2, g1, g2, g3, g4⟩ | ⟨e1, e2, g1, g2, g3⟩
      all_goals
        rw [e1, e2] at hst
        simp only [if_true, Bool.false_eq_true, if_false, Int.add_zero] at hst
        have HST := Lib.hid hst
        clear hst e1 e2
        generalize putsN (l.take k) = p at *
        generalize othersN (l.take k) = q at *
        go_wp2_with (refine wpList_store_new rfl 45 (.tmp 11) (.tmp 20) rfl rfl wr.heap.size _ _ (usC u) rfl rfl rfl rfl (by kernel_rfl) rfl (by simp [Value.oneCell']) ?_)
        go_roundw
        case rel => exact ⟨k + 1, by omega, by go_num, by rw [HST.out.1], by rw [HST.out.2], below_al HX.out.1 _, HX.out.2.1.alloc _, HX.out.2.2.1.alloc _, HX.out.2.2.2.alloc _⟩
        case measure => simp [intOf]; omega
    · obtain rfl : k = l.length := by omega
      rw [List.take_length] at pb ob ⊢
      have HB := Lib.hid hbl
      have HK := Lib.hid k2
      have q1 := k0.cell 1
      have q2 := k0.cell 2
      have q3 := k0.cell 3
      have q4 := k0.cell 4
      have q9 := k1.cell 9
      simp at q1 q2 q3 q4 q9
      have hsz := hbl.size
      have l0 := k0.lt
      have l1 := k1.lt
      have l2 := k2.lt
      clear hbl k2 k0 k1
      have HP : Hid (bucketsN c.maps (putsN l) = bucketsN c.maps (putsN l)) := Lib.hid rfl
      generalize hpv : putsN l = p at *
      generalize hov : othersN l = q at *
      have HPV := Lib.hid (And.intro hpv hov)
      clear hpv hov HP
      have hg : decide ((l.length : Int) < l.length) = false := by simp
      go_wp2_with fail
      go_loop [12, 58, 59, 60, 61, 62, 63, 64, 65, 66, 67, 68, 69, 70, 71, 72] (fun v _ _ _ _ _ _ _ _ _ _ _ _ _ _ _ => BkRel c.maps p v) (fun v _ _ _ _ _ _ _ _ _ _ _ _ _ _ _ => 64 - (intOf v).toNat)
      case atStart => exact ⟨1, rfl, .inl rfl, .inl rfl⟩
      case round =>
        obtain ⟨bk, rfl, hpow, hreach⟩ := hrel
        by_cases hgo : c.maps ≠ 0 ∧ 2 * bk < p ∧ bk < 64
        · have g1 : (c.maps != 0) = true := by simp [hgo.1]
          have g2 : decide (2 * bk < p) = true := by simp [hgo.2.1]
          have g3 : decide (bk < 64) = true := by simp [hgo.2.2]
          have HG := Lib.hid (And.intro hgo (And.intro hpow hreach))
          have hb0 : 1 ≤ bk := by omega
          have hb64 : bk < 64 := hgo.2.2
          clear hgo hpow hreach
          go_wp2
          go_round
          case rel =>
            obtain ⟨⟨h1, h2, h3⟩, h4, h5⟩ := HG.out
            refine ⟨bk * 2, rfl, ?_, .inr ⟨h1, ?_⟩⟩
            · clear h5; omega
            · omega
          case measure =>
            show 64 - (bk * 2).toNat < 64 - bk.toNat
            omega
        · have hbk : bk = bucketsN c.maps p := bk_end c.maps p bk hpow hreach hgo
          have HBK := Lib.hid hbk
          have hb0 : 1 ≤ bk ∧ bk ≤ 64 := by omega
          have hcase : ((c.maps != 0) = false ∧ True ∧ True) ∨ ((c.maps != 0) = true ∧ decide (2 * bk < p) = false ∧ True) ∨ ((c.maps != 0) = true ∧ decide (2 * bk < p) = true ∧ decide (bk < 64) = false) := by
            by_cases h0 : c.maps = 0
            · exact .inl ⟨by simp [h0], trivial, trivial⟩
            · by_cases h1 : 2 * bk < p
              · exact .inr (.inr ⟨by simp [h0], by simp [h1], by simp; omega⟩)
              · exact .inr (.inl ⟨by simp [h0], by simp; omega, trivial⟩)
          clear hbk hpow hreach hgo
          clear HPV HBK
          rcases hcase with ⟨g1, g2, g3⟩ | ⟨g1, g2, g3⟩ | ⟨g1, g2, g3⟩
          all_goals
            go_wp2_with fail
            (with_reducible refine (bounded_any ⟨s, 0, bk, _, T, c.cn, c.maps, c.stacks, c.chans⟩ _).mono ?_)
            rintro e w2 ⟨bb, rfl, hbb, hb⟩
            have hbf : bb = false := by
              cases bb
              · rfl
              · exact absurd ((hbb.1 rfl).1 0 (by omega)).1 (by show ¬ (1 ≤ s); omega)
            subst hbf
            have kz := (HK.out.alloc _).keep hb
            have hbl := below_tr (below_al HB.out _) hb
            clear q1 q2 q3 q4 q9 hb hbb
            go_wp2_with (refine wpList_store_rowTo rfl 23 (.tmp 6) (.tmp 96) rfl rfl (w.heap.size + 1 + 1) (cfC zeroCf) rfl rfl 23 (cfC zeroCf) kz (by kernel_rfl) rfl (by simp [Value.oneCell']) ?_)
            exact bodyPost_ret (v := .tuple #[cfV zeroCf, .int .i64 1]) (results_cell_tmp (p := 6) (t := 7) (ty := 23) rfl _ _ (w.heap.size + 1 + 1) 23 (cfC zeroCf) (0, 0) _ _ rfl rfl (setRow_heap _ _ _ _ _ _ kz) Try.underlying23 rfl (by kernel_rfl)) rfl ⟨rfl, below_setRow hbl (by omega) _⟩
end Go.Proofs.Ythaieabhlodajaa
