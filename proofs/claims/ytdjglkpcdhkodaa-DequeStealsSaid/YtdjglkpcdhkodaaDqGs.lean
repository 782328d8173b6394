/- DequeSteals. Printed by dqlaws_gen.py. -/
import Derived.Test.YtdjglkpcdhkodaaDqEnd
import Derived.Test.YtdjglkpcdhkodaaDqF
namespace Go.Proofs.Ytdjglkpcdhkodaa
open Go.RowKit
set_option linter.unusedVariables false
attribute [local go_sem ↓] Go.wp_at_zero Go.wp_at_succ

def StOut (w5 : World) (gt : Nat) (t : TabD) (gm cm : Nat) (G : Option Addr) (c N : Nat) (v5 : Value) (wr : World) : Prop := ∃ k : Nat, k ≤ N ∧ v5 = .int .i64 k ∧ TSee wr gt t gm cm G c ∧ Below w5.heap.size w5 wr
def StIn (w5 : World) (gt : Nat) (t : TabD) (gm cm : Nat) (G : Option Addr) (c N gX : Nat) (X : Array Value) (v7 : Value) (wr : World) : Prop := ∃ k : Nat, k ≤ N ∧ v7 = .int .i64 k ∧ TSee wr gt t gm cm G c ∧ Below w5.heap.size w5 wr ∧ Bk wr gX 52 X
set_option maxRecDepth 1000000 in
set_option maxHeartbeats 16000000 in
theorem steals_any (p : PlayD) (O : Option Addr) (co : Nat) (tk : Int) (T : Option Addr) (d : Nat) (turns : List Nat) (w : World) (t0 : 0 ≤ tk) (t1 : tk < 256) (h1 : p.s1 < 256) (h2 : p.s2 < 256) (hO : SlU8 w w.heap.size O p.own) (hT : SlU8 w w.heap.size T turns) :
    Calls Try.prog 4 #[.agg (playC O p.own.length co p.s1 p.s2 tk T turns.length d)] w (BoolBelow true w) := by
  have HO := Lib.hid hO
  have HT := Lib.hid hT
  clear hO hT
  have k0 := Bk.made w 25 (playC O p.own.length co p.s1 p.s2 tk T turns.length d)
  have hbl := below_al (Below.refl w.heap.size w) (.cells (playC O p.own.length co p.s1 p.s2 tk T turns.length d) 25)
  go_enter Try.func4, Try.ntmps4
  go_wp2_with fail
  (with_reducible refine (shown_any _).mono ?_)
  rintro e w1 ⟨rfl, hb⟩
  replace k0 := k0.keep hb
  replace hbl := below_tr hbl hb
  clear hb
  go_wp2_with (refine wpList_load_row rfl 25 (.tmp 1) rfl w.heap.size rfl 25 (playC O p.own.length co p.s1 p.s2 tk T turns.length d) (0, 0) _ k0 Try.underlying25 rfl (by kernel_rfl) ?_)
  (with_reducible refine (few_any O p.own.length co p.s1 p.s2 tk T turns.length d _).mono ?_)
  rintro e w2 ⟨rfl, hb⟩
  replace k0 := k0.keep hb
  replace hbl := below_tr hbl hb
  clear hb
  by_cases hfew : p.own.length ≤ 14 ∧ turns.length ≤ 300
  rotate_left
  · have g1 : decide (p.own.length ≤ 14 ∧ turns.length ≤ 300) = false := by simp only [decide_eq_false_iff_not]; exact hfew
    rw [g1]
    go_wp2
    go_ret
    exact ⟨rfl, hbl⟩
  have g1 : decide (p.own.length ≤ 14 ∧ turns.length ≤ 300) = true := by simp only [decide_eq_true_eq]; exact hfew
  rw [g1]
  clear g1
  obtain ⟨h14, h300⟩ := hfew
  go_wp2_with (refine wpList_load_row rfl 25 (.tmp 1) rfl w.heap.size rfl 25 (playC O p.own.length co p.s1 p.s2 tk T turns.length d) (0, 0) _ k0 Try.underlying25 rfl (by kernel_rfl) ?_)
  (with_reducible refine (played_any p O co tk T d turns _ h14 h300 t0 t1 h1 h2 ((HO.out.below hbl).more hbl.size) ((HT.out.below hbl).more hbl.size)).mono ?_)
  rintro e w5 ⟨gt, rfl, htr, hb⟩
  have HE := Lib.hid (end_ok p turns tk t0 h14 h300)
  replace hbl := below_tr hbl hb
  clear k0
  obtain ⟨gm, cm, G, c, hsee⟩ := htr.see
  clear htr
  clear hb
  obtain ⟨t, ht⟩ : ∃ t, endD (playL tk) p turns = t := ⟨_, rfl⟩
  rw [ht] at hsee HE
  clear ht
  have hbad := HE.out.bd
  have HSEE := Lib.hid hsee
  clear hsee
  obtain ⟨N, hN⟩ : ∃ N, t.done.length = N := ⟨_, rfl⟩
  have HN := Lib.hid hN
  have hN6 : N ≤ 100000 := by rw [← hN]; exact HE.out.ln
  clear hN
  go_wp2_with fail
  go_loopw [5] (fun v5 wr => StOut w5 gt t gm cm G c N v5 wr) (fun v5 _ => N - (intOf v5).toNat)
  case atStart => exact ⟨0, Nat.zero_le _, rfl, HSEE.out, Below.refl _ _⟩
  case round =>
    obtain ⟨i, hi, rfl, hsee, hb⟩ := hrel
    by_cases hlt : i < N
    · obtain ⟨a, ha⟩ : ∃ a, t.done[i]? = some a := ⟨_, List.getElem?_eq_getElem (by rw [HN.out]; exact hlt)⟩
      have g1 : (i : Int) < N := by omega
      have s26 := hsee.c26
      have lt := hsee.lt
      obtain ⟨gD, hG, hgD, hcD⟩ := hsee.dn (by rw [HN.out]; omega)
      have HCL := Lib.hid (hcD i _ ha)
      have HSEEr := Lib.hid hsee
      have HXa := Lib.hid ha
      rw [hG, HN.out] at s26
      clear hG
      (try simp at s26)
      clear hcD hsee ha
      obtain ⟨a_who, ⟨a_k, a_j, a_a, a_b⟩, a_fi, a_la, a_val, a_is, a_err, a_pt⟩ := a
      have HCL := Lib.hid (show ∀ (j : Nat) (v : Value), ([.int .i64 (a_who : Nat), .int .i64 a_k, .int .i64 a_j, .int .i64 a_a, .int .i64 a_b, .int .i64 (a_fi : Nat), .int .i64 (a_la : Nat), .int .i64 a_val, .bool a_is, .int .i64 a_err, .int .i64 a_pt, .slice none 0 0] : List Value)[j]? = some v → wr.cell? ⟨gD, i * 12 + j, none⟩ = some v from HCL.out)
      go_upto_region 9 with (first
        | (refine wpList_load_mid rfl 52 (.tmp 30) rfl gD (i * 12) rfl [.int .i64 (a_who : Nat), .int .i64 a_k, .int .i64 a_j, .int .i64 a_a, .int .i64 a_b, .int .i64 (a_fi : Nat), .int .i64 (a_la : Nat), .int .i64 a_val, .bool a_is, .int .i64 a_err, .int .i64 a_pt, .slice none 0 0] _ HCL.out Try.underlying52 rfl (by kernel_rfl) ?_)
        | (refine wpList_store_new rfl 52 (.tmp 6) (.tmp 31) rfl rfl wr.heap.size _ _ #[.int .i64 (a_who : Nat), .int .i64 a_k, .int .i64 a_j, .int .i64 a_a, .int .i64 a_b, .int .i64 (a_fi : Nat), .int .i64 (a_la : Nat), .int .i64 a_val, .bool a_is, .int .i64 a_err, .int .i64 a_pt, .slice none 0 0] rfl rfl rfl rfl (by kernel_rfl) rfl (by simp [Value.oneCell']) ?_))
      clear s26 lt hgD HCL
      have hsee := HSEEr.out
      clear HSEEr
      have ka := Bk.made wr 52 #[.int .i64 (a_who : Nat), .int .i64 a_k, .int .i64 a_j, .int .i64 a_a, .int .i64 a_b, .int .i64 (a_fi : Nat), .int .i64 (a_la : Nat), .int .i64 a_val, .bool a_is, .int .i64 a_err, .int .i64 a_pt, .slice none 0 0]
      have hba := below_al (Below.refl wr.heap.size wr) (.cells #[.int .i64 (a_who : Nat), .int .i64 a_k, .int .i64 a_j, .int .i64 a_a, .int .i64 a_b, .int .i64 (a_fi : Nat), .int .i64 (a_la : Nat), .int .i64 a_val, .bool a_is, .int .i64 a_err, .int .i64 a_pt, .slice none 0 0] 52)
      replace hsee := hsee.below hba
      replace hb := below_tr hb hba
      clear hba
      generalize wr.alloc (.cells #[.int .i64 (a_who : Nat), .int .i64 a_k, .int .i64 a_j, .int .i64 a_a, .int .i64 a_b, .int .i64 (a_fi : Nat), .int .i64 (a_la : Nat), .int .i64 a_val, .bool a_is, .int .i64 a_err, .int .i64 a_pt, .slice none 0 0] 52) = w6 at *
      generalize wr.heap.size = gX at *
      have x1 := ka.cell 1
      have x8 := ka.cell 8
      have x6 := ka.cell 6
      have x7 := ka.cell 7
      have lx := ka.lt
      simp at x1 x8 x6 x7
      have HSR := Lib.hid hsee
      clear hsee
      by_cases hk10 : a_k = 10
      rotate_left
      · have c1 : (a_k != 10) = true := by simpa using hk10
        have c2 : decide (a_k ≠ 10) = true := by simpa using hk10
        have c3 : (a_k == 10) = false := by simpa using hk10
        go_wp2_with fail
        go_roundw
        case rel => exact ⟨i + 1, by omega, by go_num, HSR.out, hb⟩
        case measure => simp [intOf]; omega
      cases a_is with
      | false =>
        have c1 : (a_k != 10) = false := by simpa using hk10
        have c2 : decide (a_k ≠ 10) = false := by simpa using hk10
        have c3 : (a_k == 10) = true := by simpa using hk10
        go_wp2_with fail
        go_roundw
        case rel => exact ⟨i + 1, by omega, by go_num, HSR.out, hb⟩
        case measure => simp [intOf]; omega
      | true =>
        subst hk10
        have HKX := Lib.hid ka
        clear ka
        go_wp2_with fail
        clear x1 x8 x6 x7 lx
        go_loopw [7] (fun v7 wr2 => StIn w5 gt t gm cm G c N gX #[.int .i64 (a_who : Nat), .int .i64 10, .int .i64 a_j, .int .i64 a_a, .int .i64 a_b, .int .i64 (a_fi : Nat), .int .i64 (a_la : Nat), .int .i64 a_val, .bool true, .int .i64 a_err, .int .i64 a_pt, .slice none 0 0] v7 wr2) (fun v7 _ => N - (intOf v7).toNat)
        case atStart => exact ⟨0, Nat.zero_le _, rfl, HSR.out, hb, HKX.out⟩
        case round =>
          clear HSR HKX hb
          obtain ⟨k, hk, rfl, hsee, hb, ka⟩ := hrel
          by_cases hlt2 : k < N
          · obtain ⟨y, hy⟩ : ∃ y, t.done[k]? = some y := ⟨_, List.getElem?_eq_getElem (by rw [HN.out]; exact hlt2)⟩
            have g2 : (k : Int) < N := by omega
            have s26 := hsee.c26
            have lt := hsee.lt
            obtain ⟨gD, hG, hgD, hcD⟩ := hsee.dn (by rw [HN.out]; omega)
            have HCL := Lib.hid (hcD k _ hy)
            have HSEEr := Lib.hid hsee
            have HXy := Lib.hid hy
            rw [hG, HN.out] at s26
            clear hG
            (try simp at s26)
            clear hcD hsee hy
            obtain ⟨y_who, ⟨y_k, y_j, y_a, y_b⟩, y_fi, y_la, y_val, y_is, y_err, y_pt⟩ := y
            have HCL := Lib.hid (show ∀ (j : Nat) (v : Value), ([.int .i64 (y_who : Nat), .int .i64 y_k, .int .i64 y_j, .int .i64 y_a, .int .i64 y_b, .int .i64 (y_fi : Nat), .int .i64 (y_la : Nat), .int .i64 y_val, .bool y_is, .int .i64 y_err, .int .i64 y_pt, .slice none 0 0] : List Value)[j]? = some v → wr.cell? ⟨gD, k * 12 + j, none⟩ = some v from HCL.out)
            go_upto_region 14 with (first
              | (refine wpList_load_mid rfl 52 (.tmp 56) rfl gD (k * 12) rfl [.int .i64 (y_who : Nat), .int .i64 y_k, .int .i64 y_j, .int .i64 y_a, .int .i64 y_b, .int .i64 (y_fi : Nat), .int .i64 (y_la : Nat), .int .i64 y_val, .bool y_is, .int .i64 y_err, .int .i64 y_pt, .slice none 0 0] _ HCL.out Try.underlying52 rfl (by kernel_rfl) ?_)
              | (refine wpList_store_new rfl 52 (.tmp 8) (.tmp 57) rfl rfl wr.heap.size _ _ #[.int .i64 (y_who : Nat), .int .i64 y_k, .int .i64 y_j, .int .i64 y_a, .int .i64 y_b, .int .i64 (y_fi : Nat), .int .i64 (y_la : Nat), .int .i64 y_val, .bool y_is, .int .i64 y_err, .int .i64 y_pt, .slice none 0 0] rfl rfl rfl rfl (by kernel_rfl) rfl (by simp [Value.oneCell']) ?_))
            clear s26 lt hgD HCL
            have hsee := HSEEr.out
            clear HSEEr
            have ky := Bk.made wr 52 #[.int .i64 (y_who : Nat), .int .i64 y_k, .int .i64 y_j, .int .i64 y_a, .int .i64 y_b, .int .i64 (y_fi : Nat), .int .i64 (y_la : Nat), .int .i64 y_val, .bool y_is, .int .i64 y_err, .int .i64 y_pt, .slice none 0 0]
            have hba := below_al (Below.refl wr.heap.size wr) (.cells #[.int .i64 (y_who : Nat), .int .i64 y_k, .int .i64 y_j, .int .i64 y_a, .int .i64 y_b, .int .i64 (y_fi : Nat), .int .i64 (y_la : Nat), .int .i64 y_val, .bool y_is, .int .i64 y_err, .int .i64 y_pt, .slice none 0 0] 52)
            replace hsee := hsee.below hba
            replace ka := ka.keep hba
            replace hb := below_tr hb hba
            clear hba
            generalize wr.alloc (.cells #[.int .i64 (y_who : Nat), .int .i64 y_k, .int .i64 y_j, .int .i64 y_a, .int .i64 y_b, .int .i64 (y_fi : Nat), .int .i64 (y_la : Nat), .int .i64 y_val, .bool y_is, .int .i64 y_err, .int .i64 y_pt, .slice none 0 0] 52) = w7 at *
            generalize wr.heap.size = gY at *
            have HKX := Lib.hid ka
            have HSR := Lib.hid hsee
            have y1 := ky.cell 1
            have y8 := ky.cell 8
            have y6 := ky.cell 6
            have y7 := ky.cell 7
            have x6 := ka.cell 6
            have x7 := ka.cell 7
            have lx := ka.lt
            have ly := ky.lt
            simp at x6 x7 y1 y8 y6 y7
            clear ka ky hsee
            by_cases hik : i = k
            · have c1 : ((i : Int) != k) = false := by simp; omega
              have c2 : decide ((i : Int) ≠ k) = false := by simp; omega
              have c3 : ((i : Int) == k) = true := by simp; omega
              go_wp2_with fail
              go_roundw
              case rel => exact ⟨k + 1, by omega, by go_num, HSR.out, hb, HKX.out⟩
              case measure => simp [intOf]; omega
            have c1 : ((i : Int) != k) = true := by simp; omega
            have c2 : decide ((i : Int) ≠ k) = true := by simp; omega
            have c3 : ((i : Int) == k) = false := by simp; omega
            by_cases hk10 : y_k = 10
            rotate_left
            · have d1 : (y_k == 10) = false := by simpa using hk10
              have d2 : decide (y_k = 10) = false := by simpa using hk10
              go_wp2_with fail
              go_roundw
              case rel => exact ⟨k + 1, by omega, by go_num, HSR.out, hb, HKX.out⟩
              case measure => simp [intOf]; omega
            subst hk10
            cases y_is with
            | false =>
              go_wp2_with fail
              go_roundw
              case rel => exact ⟨k + 1, by omega, by go_num, HSR.out, hb, HKX.out⟩
              case measure => simp [intOf]; omega
            | true =>
              by_cases hla : a_la < y_la
              rotate_left
              · have d3 : decide ((a_la : Int) < y_la) = false := by simp; omega
                go_wp2_with fail
                go_roundw
                case rel => exact ⟨k + 1, by omega, by go_num, HSR.out, hb, HKX.out⟩
                case measure => simp [intOf]; omega
              have d3 : decide ((a_la : Int) < y_la) = true := by simp; omega
              have hpw := HE.out.si.pw _ (List.mem_of_getElem? HXa.out) _ (List.mem_of_getElem? HXy.out) rfl rfl rfl rfl hla
              have hpw2 : a_val < y_val := hpw
              have d4 : decide (a_val ≥ y_val) = false := by simp; omega
              have d5 : decide (y_val ≤ a_val) = false := by simp; omega
              clear hpw
              go_wp2_with fail
              go_roundw
              case rel => exact ⟨k + 1, by omega, by go_num, HSR.out, hb, HKX.out⟩
              case measure => simp [intOf]; omega
          · obtain rfl : k = N := by omega
            have s26 := hsee.c26
            have lt := hsee.lt
            rw [HN.out] at s26
            have g2 : decide ((k : Int) < k) = false := by simp
            have HSR := Lib.hid hsee
            clear hsee ka
            go_wp2_with fail
            go_roundw
            case rel => exact ⟨i + 1, by omega, by go_num, HSR.out, hb⟩
            case measure => simp [intOf]; omega
    · obtain rfl : i = N := by omega
      have s26 := hsee.c26
      have s27 := hsee.c27
      have lt := hsee.lt
      rw [HN.out] at s26
      rw [hbad] at s27
      have g1 : decide ((i : Int) < i) = false := by simp
      clear hsee
      go_wp2_with fail
      go_ret
      exact ⟨rfl, below_tr hbl hb⟩
end Go.Proofs.Ytdjglkpcdhkodaa
