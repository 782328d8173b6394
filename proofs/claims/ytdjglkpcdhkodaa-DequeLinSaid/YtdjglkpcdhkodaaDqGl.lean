/- DequeLin. Printed by dqlaws_gen.py. -/
import Derived.Test.YtdjglkpcdhkodaaDqEnd
import Derived.Test.YtdjglkpcdhkodaaDqF
import Derived.Test.YtdjglkpcdhkodaaDqNe
import Derived.Test.YtdjglkpcdhkodaaDqOrd
namespace Go.Proofs.Ytdjglkpcdhkodaa
open Go.RowKit
set_option linter.unusedVariables false
attribute [local go_sem ↓] Go.wp_at_zero Go.wp_at_succ

def LnRel (w5 : World) (N : Nat) (ds : List DoneD) (v5 v6 : Value) (wr : World) : Prop := ∃ k : Nat, k ≤ N ∧ v6 = .int .i64 k ∧ Below w5.heap.size w5 wr ∧ (∃ G m c, v5 = .slice G m c ∧ m = ((ds.take k).filter fun d => decide (d.err ≠ 9)).length ∧ wr.ownsRow w5.heap.size 52 12 v5 m (donesC ((ds.take k).filter fun d => decide (d.err ≠ 9))))
theorem done_info : (Try.prog.info? 52).map (fun i => (i.zero, i.size, i.bytes)) = some (some (.agg (doneC ⟨0, op0, 0, 0, 0, false, 0, 0⟩)), 12, 112) := by kernel_rfl
theorem tailW_len (K : Nat) : (tailW K).length = 3 * K := by unfold tailW; simp only [List.length_append, List.length_replicate]; omega
theorem end_ln (p : PlayD) (turns : List Nat) (tk : Int) (t0 : 0 ≤ tk) (ho : p.own.length ≤ 14) (hn : turns.length ≤ 300) : (endD (playL tk) p turns).done.length ≤ 3000 := by
  obtain ⟨hnn, ly, lf⟩ := playL_size tk t0
  have h0 := DI.begin ly p
  have h1 := DI.run ly (by omega) (turns.map (· % 3) ++ tailW 900) h0 (fun w hw => by
    rcases List.mem_append.1 hw with hw | hw
    · rw [List.mem_map] at hw
      obtain ⟨x, _, rfl⟩ := hw
      exact Nat.mod_lt _ (by omega)
    · unfold tailW at hw
      simp only [List.mem_append, List.mem_replicate] at hw
      omega)
  have e : (turns.map (· % 3) ++ tailW 900).length ≤ 3000 := by rw [List.length_append, List.length_map, tailW_len]; omega
  have h2 := h1.dn
  rw [Nat.zero_add] at h2
  unfold endD
  exact Nat.le_trans h2 e
theorem rowAt_nil (w : World) : RowAt w none 0 0 [] := ⟨⟨rfl, .inl ⟨rfl, rfl, rfl⟩⟩, Nat.le_refl _, rfl⟩
set_option maxRecDepth 1000000 in
set_option maxHeartbeats 16000000 in
theorem lin_any (p : PlayD) (O : Option Addr) (co : Nat) (tk : Int) (T : Option Addr) (d : Nat) (turns : List Nat) (w : World) (t0 : 0 ≤ tk) (t1 : tk < 256) (h1 : p.s1 < 256) (h2 : p.s2 < 256) (hO : SlU8 w w.heap.size O p.own) (hT : SlU8 w w.heap.size T turns) :
    Calls Try.prog 5 #[.agg (playC O p.own.length co p.s1 p.s2 tk T turns.length d)] w (BoolBelow true w) := by
  have HO := Lib.hid hO
  have HT := Lib.hid hT
  clear hO hT
  have k0 := Bk.made w 25 (playC O p.own.length co p.s1 p.s2 tk T turns.length d)
  have hbl := below_al (Below.refl w.heap.size w) (.cells (playC O p.own.length co p.s1 p.s2 tk T turns.length d) 25)
  go_enter Try.func5, Try.ntmps5
  go_wp2_with fail
  (with_reducible refine (shown_any _).mono ?_)
  rintro e w1 ⟨rfl, hb⟩
  replace k0 := k0.keep hb
  replace hbl := below_tr hbl hb
  clear hb
  go_wp2_with (refine wpList_load_row rfl 25 (.tmp 1) rfl w.heap.size rfl 25 (playC O p.own.length co p.s1 p.s2 tk T turns.length d) (0, 0) _ k0 Try.underlying25 rfl (by kernel_rfl) ?_)
  (with_reducible refine (few_any O p.own.length co p.s1 p.s2 tk T turns.length d _).mono ?_)
  rintro e w2 ⟨rfl, hb⟩
  replace k0 := k0.keep hb
  replace hbl := below_tr hbl hb
  clear hb
  by_cases hfew : p.own.length ≤ 14 ∧ turns.length ≤ 300
  rotate_left
  · have g1 : decide (p.own.length ≤ 14 ∧ turns.length ≤ 300) = false := by simp only [decide_eq_false_iff_not]; exact hfew
    rw [g1]
    go_wp2
    go_ret
    exact ⟨rfl, hbl⟩
  have g1 : decide (p.own.length ≤ 14 ∧ turns.length ≤ 300) = true := by simp only [decide_eq_true_eq]; exact hfew
  rw [g1]
  clear g1
  obtain ⟨h14, h300⟩ := hfew
  have q0 := k0.cell 0
  have q1 := k0.cell 1
  have q2 := k0.cell 2
  have ql := k0.lt
  simp at q0 q1 q2
  by_cases h8 : p.own.length ≤ 8
  rotate_left
  · have g1 : decide ((8 : Int) < p.own.length) = true := by simp; omega
    have g1' : decide ((p.own.length : Int) > 8) = true := by simp; omega
    go_wp2_with fail
    go_ret
    exact ⟨rfl, hbl⟩
  have g1 : decide ((8 : Int) < p.own.length) = false := by simp; omega
  have g1' : decide ((p.own.length : Int) > 8) = false := by simp; omega
  by_cases hs1 : p.s1 % 7 ≤ 2
  rotate_left
  · have g2 : decide ((2 : Int) < (p.s1 : Int) % 7) = true := by simp; omega
    have g2' : decide ((p.s1 : Int) % 7 > 2) = true := by simp; omega
    go_wp2_with fail
    go_ret
    exact ⟨rfl, hbl⟩
  have g2 : decide ((2 : Int) < (p.s1 : Int) % 7) = false := by simp; omega
  have g2' : decide ((p.s1 : Int) % 7 > 2) = false := by simp; omega
  by_cases hs2 : p.s2 % 7 ≤ 2
  rotate_left
  · have g3 : decide ((2 : Int) < (p.s2 : Int) % 7) = true := by simp; omega
    have g3' : decide ((p.s2 : Int) % 7 > 2) = true := by simp; omega
    go_wp2_with fail
    go_ret
    exact ⟨rfl, hbl⟩
  have g3 : decide ((2 : Int) < (p.s2 : Int) % 7) = false := by simp; omega
  have g3' : decide ((p.s2 : Int) % 7 > 2) = false := by simp; omega
  go_wp2_with (refine wpList_load_row rfl 25 (.tmp 1) rfl w.heap.size rfl 25 (playC O p.own.length co p.s1 p.s2 tk T turns.length d) (0, 0) _ k0 Try.underlying25 rfl (by kernel_rfl) ?_)
  (with_reducible refine (played_any p O co tk T d turns _ h14 h300 t0 t1 h1 h2 ((HO.out.below hbl).more hbl.size) ((HT.out.below hbl).more hbl.size)).mono ?_)
  rintro e w5 ⟨gt, rfl, htr, hb⟩
  have HE := Lib.hid (end_ok p turns tk t0 h14 h300)
  replace hbl := below_tr hbl hb
  clear k0
  obtain ⟨gm, cm, G, c, hsee⟩ := htr.see
  clear htr
  have HNE := Lib.hid (end_ne (playL tk) p turns)
  have HLN := Lib.hid (end_ln p turns tk t0 h14 h300)
  clear hb
  obtain ⟨t, ht⟩ : ∃ t, endD (playL tk) p turns = t := ⟨_, rfl⟩
  rw [ht] at hsee HE HNE HLN
  clear ht
  have hbad := HE.out.bd
  have HSEE := Lib.hid hsee
  clear hsee
  obtain ⟨N, hN⟩ : ∃ N, t.done.length = N := ⟨_, rfl⟩
  have HN := Lib.hid hN
  have hN6 : N ≤ 100000 := by rw [← hN]; exact HE.out.ln
  clear hN
  clear g1 g1' g2 g2' g3 g3' q0 q1 q2 ql
  have hN3 : N ≤ 3000 := by rw [← HN.out]; exact HLN.out
  obtain ⟨i0, hi0, hz0, hz1, hz2⟩ := info_parts done_info
  go_wp2_with fail
  go_loopw [5, 6] (fun v5 v6 wr => LnRel w5 N t.done v5 v6 wr) (fun _ v6 _ => N - (intOf v6).toNat)
  case atStart => exact ⟨0, Nat.zero_le _, rfl, Below.refl _ _, none, 0, 0, rfl, rfl, World.ownsRow_nil _ _ _ _⟩
  case round =>
    obtain ⟨i, hi, rfl, hb, G5, m5, c5, rfl, hm5, hown⟩ := hrel
    have hsee := HSEE.out.below hb
    have s26 := hsee.c26
    have lt := hsee.lt
    have hml : m5 ≤ N := by rw [hm5]; refine Nat.le_trans (List.length_filter_le _ _) ?_; rw [List.length_take]; omega
    by_cases hlt : i < N
    · obtain ⟨a, ha⟩ : ∃ a, t.done[i]? = some a := ⟨_, List.getElem?_eq_getElem (by rw [HN.out]; exact hlt)⟩
      have g1 : (i : Int) < N := by omega
      obtain ⟨gD, hG, hgD, hcD⟩ := hsee.dn (by rw [HN.out]; omega)
      have HCL := Lib.hid (hcD i _ ha)
      have cE := hcD i a ha 9 _ rfl
      rw [hG, HN.out] at s26
      have htk : t.done.take (i + 1) = t.done.take i ++ [a] := by rw [List.take_add_one, ha]; rfl
      have HTK := Lib.hid (And.intro hm5 (And.intro htk hown))
      clear hcD hsee hG hm5 htk hown ha
      obtain ⟨a_who, ⟨a_k, a_j, a_a, a_b⟩, a_fi, a_la, a_val, a_is, a_err, a_pt⟩ := a
      dsimp only at cE
      by_cases h9 : a_err = 9
      · have e1 : (a_err != 9) = false := by simpa using h9
        have e2 : decide (a_err ≠ 9) = false := by simpa using h9
        have HR := Lib.hid (show LnRel w5 N t.done (.slice G5 m5 c5) (.int .i64 ((i + 1 : Nat) : Int)) wr from ⟨i + 1, by omega, rfl, hb, G5, m5, c5, rfl, by rw [HTK.out.2.1, List.filter_append, HTK.out.1]; simp [h9], by rw [HTK.out.2.1, List.filter_append]; simpa [h9] using HTK.out.2.2⟩)
        clear hb HTK
        go_wp2_with fail
        go_roundw
        case rel => exact HR.out
        case measure => simp [intOf]; omega
      · have e1 : (a_err != 9) = true := by simpa using h9
        have e2 : decide (a_err ≠ 9) = true := by simpa using h9
        have HCL := Lib.hid (show ∀ (j : Nat) (v : Value), ([.int .i64 (a_who : Nat), .int .i64 a_k, .int .i64 a_j, .int .i64 a_a, .int .i64 a_b, .int .i64 (a_fi : Nat), .int .i64 (a_la : Nat), .int .i64 a_val, .bool a_is, .int .i64 a_err, .int .i64 a_pt, .slice none 0 0] : List Value)[j]? = some v → wr.cell? ⟨gD, i * 12 + j, none⟩ = some v from HCL.out)
        have kr := Bk.made wr 52 #[.int .i64 (a_who : Nat), .int .i64 a_k, .int .i64 a_j, .int .i64 a_a, .int .i64 a_b, .int .i64 (a_fi : Nat), .int .i64 (a_la : Nat), .int .i64 a_val, .bool a_is, .int .i64 a_err, .int .i64 a_pt, .slice none 0 0]
        have hbr := below_al (Below.refl wr.heap.size wr) (.cells #[.int .i64 (a_who : Nat), .int .i64 a_k, .int .i64 a_j, .int .i64 a_a, .int .i64 a_b, .int .i64 (a_fi : Nat), .int .i64 (a_la : Nat), .int .i64 a_val, .bool a_is, .int .i64 a_err, .int .i64 a_pt, .slice none 0 0] 52)
        have hown2 := own_keepb' HTK.out.2.2 hbr
        have hb2 := below_tr hb hbr
        have HB := Lib.hid (And.intro hb hb2)
        clear hbr hb
        go_wp2_with (first
          | (refine wpList_load_mid rfl 52 (.tmp 59) rfl gD (i * 12) rfl [.int .i64 (a_who : Nat), .int .i64 a_k, .int .i64 a_j, .int .i64 a_a, .int .i64 a_b, .int .i64 (a_fi : Nat), .int .i64 (a_la : Nat), .int .i64 a_val, .bool a_is, .int .i64 a_err, .int .i64 a_pt, .slice none 0 0] _ HCL.out Try.underlying52 rfl (by kernel_rfl) ?_)
          | (at_builtin; go_must (refine wpList_append_own_at _ rfl (.tmp 53) (.tmp 61) _ rfl w5.heap.size 52 i0 _ 12 112 Try.underlying44 hi0 hz0 hz1 hz2 rfl (by omega) (.slice G5 m5 c5) m5 (donesC ((t.done.take i).filter fun d => decide (d.err ≠ 9))) rfl hown2 ⟨wr.heap.size, 0, none⟩ 1 1 [.int .i64 (a_who : Nat), .int .i64 a_k, .int .i64 a_j, .int .i64 a_a, .int .i64 a_b, .int .i64 (a_fi : Nat), .int .i64 (a_la : Nat), .int .i64 a_val, .bool a_is, .int .i64 a_err, .int .i64 a_pt, .slice none 0 0] rfl rfl (fun j u hu => by rw [Go.WideShapes.add_plain, Nat.zero_add, kr.cell j]; simpa using hu) (by simp [Value.oneCell']) (by simp only [maxLen]; omega) (by omega) HB.out.2.size ?_; intro v9 w7 hrow7 hgrow7 _ _)))
        have hbg := below_grow HB.out.2 hown2 hgrow7 HB.out.2.size (Nat.le_refl _)
        have hR : LnRel w5 N t.done v9 (.int .i64 ((i + 1 : Nat) : Int)) w7 := by
          obtain ⟨G9, c9, rfl⟩ := own_slice hrow7
          have ef : (t.done.take (i + 1)).filter (fun d => decide (d.err ≠ 9)) = (t.done.take i).filter (fun d => decide (d.err ≠ 9)) ++ [⟨a_who, ⟨a_k, a_j, a_a, a_b⟩, a_fi, a_la, a_val, a_is, a_err, a_pt⟩] := by rw [HTK.out.2.1, List.filter_append]; simp [h9]
          refine ⟨i + 1, by omega, rfl, hbg, G9, m5 + 1, c9, rfl, ?_, ?_⟩
          · rw [ef, List.length_append, ← HTK.out.1]; rfl
          · rw [ef, donesC_snoc]
            exact hrow7
        have HR := Lib.hid hR
        clear hR hbg hrow7 hgrow7 hown2 kr HB HTK hb2
        go_wp2_with fail
        go_roundw
        case rel => exact HR.out
        case measure => simp [intOf]; omega
    · obtain rfl : i = N := by omega
      have s27 := hsee.c27
      rw [HN.out] at s26
      rw [hbad] at s27
      have g1 : decide ((i : Int) < i) = false := by simp
      rw [show t.done.take i = t.done by rw [← HN.out]; exact List.take_length] at hown hm5
      have hor := lin_ok HE.out (k := m5) (by omega)
      have hdr := DnR.of_own hown hm5.symm
      have HK := Lib.hid (And.intro hor (And.intro hdr hb))
      have HKD : Hid (∀ d ∈ (t.done.filter fun d => decide (d.err ≠ 9)), d.op.kind = 8 ∨ d.op.kind = 9 ∨ d.op.kind = 10) := Lib.hid (fun d hd => by
        rcases HNE.out.dn d (List.mem_filter.1 hd).1 with ⟨h, _⟩ | ⟨h, _⟩ | ⟨h, _⟩ <;> omega)
      clear hor hdr hown hm5 hsee
      go_wp2_with fail
      (with_reducible refine (order_any m5 (t.done.filter fun d => decide (d.err ≠ 9)) [] G5 m5 c5 none 0 0 _ (Nat.le_refl _) HK.out.2.1 (rowAt_nil _) HKD.out (by omega)).mono ?_)
      rintro e w6 ⟨rfl, hb6⟩
      rw [HK.out.1]
      go_wp2
      go_ret
      exact ⟨rfl, below_tr (below_tr hbl HK.out.2.2) hb6⟩
end Go.Proofs.Ytdjglkpcdhkodaa
