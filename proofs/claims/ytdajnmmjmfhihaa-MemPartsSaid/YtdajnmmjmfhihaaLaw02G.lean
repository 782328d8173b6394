/- The walk of MemParts. -/
import Derived.Test.YtdajnmmjmfhihaaLaw02B
import Derived.Test.YtdajnmmjmfhihaaMemO
import Derived.Laws.AppendOwnNone
import Derived.Maps.AppendAt
import Derived.Deep.Slices
import Derived.Deep.Fields
import Derived.Deep.Cut
import Derived.Outline
namespace Go.Proofs.Ytdajnmmjmfhihaa
open Go.RowKit
attribute [local go_sem ↓] Go.wp_at_zero Go.wp_at_succ

theorem all_app (l l' : List Acc) : ∀ zs, allCells zs (l ++ l') = allCells (allCells zs l) l' ∧ allTold zs (l ++ l') = allTold zs l ++ allTold (allCells zs l) l' ∧
    allErr zs (l ++ l') = (if allErr zs l = 0 then allErr (allCells zs l) l' else allErr zs l) := by
  induction l with
  | nil => intro zs; exact ⟨rfl, rfl, by simp [allErr, allCells]⟩
  | cons a l ih =>
    intro zs
    obtain ⟨h1, h2, h3⟩ := ih (a.make zs)
    refine ⟨by simp only [List.cons_append, allCells]; exact h1, by simp only [List.cons_append, allTold, allCells]; rw [h2], ?_⟩
    simp only [List.cons_append, allErr, allCells]
    by_cases he : a.err zs.length = 0
    · simp only [he, if_true, h3]
    · simp only [he, if_false]

theorem all_n (A B : Option Addr) (M c d n m : Nat) (zs : List Int) (l : List Acc) (w : World) (hn : zs.length = n) (hk : l.length = m) (hB : M ≤ w.heap.size) (hM : MemAt w M A n c zs) (hl : SlAcc w w.heap.size B l) (hm : n ≤ 1000000) (hm2 : m ≤ 1000000) :
    Calls Try.prog 17 #[memV A n c, .slice B m d] w (AllOut M zs l w) := by
  subst hn hk
  exact all_any A B M c d zs l w hB hM hl hm hm2

theorem SlAcc.take {w : World} {B : Nat} {A : Option Addr} {l : List Acc} (h : SlAcc w B A l) (k : Nat) : SlAcc w B A (l.take k) := by
  intro hl
  obtain ⟨b, o, e, hb, hc⟩ := h (by simp at hl; omega)
  refine ⟨b, o, e, hb, fun j a ha => hc j a ?_⟩
  have hj : j < k := by
    have := (List.getElem?_eq_some_iff.1 ha).1
    simp at this; omega
  rwa [List.getElem?_take_of_lt hj] at ha
theorem SlAcc.drop {w : World} {B : Nat} {b o : Nat} {l : List Acc} (h : SlAcc w B (some ⟨b, o, none⟩) l) (k : Nat) : SlAcc w B (some ⟨b, o + k * 4, none⟩) (l.drop k) := by
  intro hl
  obtain ⟨b', o', e, hb, hc⟩ := h (by simp at hl; omega)
  injection e with e
  injection e with e1 e2
  subst e1 e2
  refine ⟨b, o + k * 4, rfl, hb, fun j a ha => ?_⟩
  rw [List.getElem?_drop] at ha
  have := hc _ a ha
  have e : o + k * 4 + j * 4 = o + (k + j) * 4 := by omega
  rw [e]
  exact this

theorem SlAcc.cut {w : World} {M : Nat} {B : Option Addr} {l : List Acc} (h : SlAcc w M B l) (lo hi d : Nat) (hd : l.length ≤ d) : SlAcc w M (if d = lo then B else B.map (·.add (lo * 4))) ((l.take hi).drop lo) := by
  intro hl
  simp at hl
  obtain ⟨b, o, rfl, hb, hc⟩ := h (by omega)
  rw [if_neg (by omega)]
  refine ⟨b, o + lo * 4, by simp [Go.WideShapes.add_plain], hb, fun j a ha => ?_⟩
  rw [List.getElem?_drop] at ha
  have hj : lo + j < hi := by
    have := (List.getElem?_eq_some_iff.1 ha).1
    simp at this; omega
  rw [List.getElem?_take_of_lt hj] at ha
  have := hc _ a ha
  have e : o + lo * 4 + j * 4 = o + (lo + j) * 4 := by omega
  rw [e]
  exact this
theorem acc_size (w : World) : (sizeOf (Try.prog.elem 36)).run Try.prog w = .ok 4 w := by kernel_rfl
theorem cut_h (B : Option Addr) (n d k : Nat) (hk : k ≤ n) (hd : n ≤ d) : ∃ B1 d1, (∀ w, (Instr.slice 36 (.slice B n d) none (some (.int .i64 k)) none).run Try.prog w = .ok (.slice B1 k d1) w) ∧ ∀ (w : World) (M : Nat) (l : List Acc), l.length = n → SlAcc w M B l → SlAcc w M B1 (l.take k) := by
  refine ⟨if d = 0 then B else B.map (·.add (0 * 4)), d - 0, fun w => ?_, fun w M l hl h => ?_⟩
  · rw [run_slice_h w 36 B n d Try.underlying36 .i64 k (by omega) (by omega), acc_size]
    rfl
  · have := h.cut 0 k d (by omega)
    rwa [List.drop_zero] at this
theorem cut_l (B : Option Addr) (n d k : Nat) (hk : k ≤ n) (hd : n ≤ d) : ∃ B1 d1, (∀ w, (Instr.slice 36 (.slice B n d) (some (.int .i64 k)) none none).run Try.prog w = .ok (.slice B1 (n - k) d1) w) ∧ ∀ (w : World) (M : Nat) (l : List Acc), l.length = n → SlAcc w M B l → SlAcc w M B1 (l.drop k) := by
  refine ⟨if d = k then B else B.map (·.add (k * 4)), d - k, fun w => ?_, fun w M l hl h => ?_⟩
  · rw [run_slice_l w 36 B n d Try.underlying36 .i64 k (by omega) (by omega), acc_size]
    rfl
  · have := h.cut k n d (by omega)
    rwa [List.take_of_length_le (by omega)] at this

theorem MemAt.lower {w : World} {B B' n c : Nat} {X : Option Addr} {zs : List Int} (h : MemAt w B X n c zs) (hB : B' ≤ B) (hs : Sl w B' X n (ints zs) ∨ OwnInts w B (.slice X n c) zs) : MemAt w B' X n c zs := by
  refine ⟨h.1, ?_⟩
  rcases hs with h' | h'
  · exact .inl h'
  · exact .inr (own_lower h' hB)
/-- What stands behind 'y, s, f := All(..)'. -/
def PCut (n m : Nat) (er : Int) (cs : List Int) (rs : List (Int × Bool)) (M : Nat) (wr : World) (s1 s2 s3 : Value) (wx : World) : Prop :=
  ∃ p Y cy S ds, s1 = .pointer (some ⟨p, 0, none⟩) ∧ s2 = .slice S m ds ∧ s3 = .int .i64 er ∧ wr.heap.size ≤ p ∧ Bk wx p 24 #[.slice Y n cy] ∧ MemAt wx M Y n cy cs ∧ OwnRes wx wr.heap.size (.slice S m ds) rs ∧ Below wr.heap.size wr wx

section
variable {n m M : Nat} {er : Int} {cs : List Int} {rs : List (Int × Bool)} {wr w4 : World} {Y S : Option Addr} {cy ds : Nat}
theorem pcut1 {b : Nat} (hm : rs.length = m) (hbc : Below wr.heap.size wr w4) (hM : MemAt w4 M Y n cy cs) (hR : OwnRes w4 b (.slice S m ds) rs) (hb : wr.heap.size ≤ b) (hMM : M ≤ wr.heap.size) :
    PCut n m er cs rs M wr (.pointer (some ⟨w4.heap.size, 0, none⟩)) (.slice S m ds) (.int .i64 er) (w4.alloc (.cells #[.slice Y n cy] 24)) :=
  ⟨_, Y, cy, S, ds, rfl, rfl, rfl, hbc.size, Bk.made _ _ _, hM.al (Nat.le_trans hMM hbc.size) _, own_lower (World.ownsRow.alloc hR _) hb, below_al hbc _⟩
theorem pcut2 (hm : rs.length = m) (hb2 : Below (wr.alloc zM).drew.heap.size (wr.alloc zM).drew w4) (hM : MemAt w4 M Y n cy cs) (hR : OwnRes w4 (wr.alloc zM).drew.heap.size (.slice S m ds) rs) (hMM : M ≤ wr.heap.size) :
    PCut n m er cs rs M wr (.pointer (some ⟨wr.heap.size, 0, none⟩)) (.slice S m ds) (.int .i64 er) (w4.setCell ⟨wr.heap.size, 0, none⟩ (.slice Y n cy)) := by
  have hbu := below_undrew hb2
  have kA : Bk w4 wr.heap.size 24 #[.slice none 0 0] := (Bk.made wr 24 #[.slice none 0 0]).keep hbu
  have hbc := below_tr (below_al (Below.refl wr.heap.size wr) zM) hbu
  have hsz : (wr.alloc zM).drew.heap.size = wr.heap.size + 1 := by simp
  exact ⟨_, Y, cy, S, ds, rfl, rfl, rfl, Nat.le_refl _, kA.stored 0 _, hM.far kA (by decide) hMM 0 _, own_lower (own_keepSet hR (p := ⟨wr.heap.size, 0, none⟩) (by show wr.heap.size < _; omega) _) (by omega), below_setB hbc (Nat.le_refl _) _ _⟩
end
theorem grownBy_same (w : World) (r : Option Nat) : w.grownBy w r := ⟨rfl, rfl, rfl, Nat.le_refl _, fun _ _ _ => rfl⟩
theorem resCells_one (rs : List (Int × Bool)) : ∀ u ∈ resCells rs, u.oneCell' = true := by
  intro u hu
  simp only [resCells, List.mem_flatMap] at hu
  obtain ⟨r, _, hr⟩ := hu
  simp at hr
  rcases hr with rfl | rfl <;> rfl
/-- append of results onto an owned row, out of an owned row; whatever the guard. -/
theorem wpList_append_res {ops : Array Oper} {rest : List Oper} {o : Oper} {a : Act} {w : World} {Q : Exit → Act → World → Prop} (hgd : Region.wanted o (yielded ops a.tmps) = true) (s x : Operand)
    (ho : o.op = .call { callee := .builtin .append, args := #[s, x], argTypes := #[37, 37] })
    (base b2 : Nat) (v u : Value) (rs rs' : List (Int × Bool)) (hs : a.eval s = v) (hown : OwnRes w base v rs) (hx : a.eval x = u) (hsrc : OwnRes w b2 u rs')
    (hn : rs.length + rs'.length ≤ 1000000) (hbase : base ≤ w.heap.size)
    (h : ∀ v' w', OwnRes w' base v' (rs ++ rs') → w.grownBy w' v.ownBlock → (v'.ownBlock = v.ownBlock ∨ v'.ownBlock = some w.heap.size) → wpList Try.prog ops Q rest (a.put o.dst v') w') : wpList Try.prog ops Q (o :: rest) a w := by
  obtain ⟨i0, hi0, hz0, hz1, hz2⟩ := info_parts res_info
  have happ : resCells (rs ++ rs') = resCells rs ++ resCells rs' := by simp [resCells]
  simp only [wpList, hgd, if_true]
  refine .inl ?_
  rcases hsrc.2 with ⟨rfl, h0⟩ | ⟨g, cap, cur, rfl, _, _⟩
  · have hr := run_append_owned_none (P := Try.prog) (w := w) base 37 o.type 29 i0 2 Try.underlying37 hi0 v rs.length _ hown
    have e : rs' = [] := List.eq_nil_of_length_eq_zero h0
    subst e
    unfold Oper.wp execOp
    simp only [ho, resolve, invoke, builtin, Sem.run_bind, Sem.run_pure, Result.andThen_ok, List.map_toArray, List.map_cons, List.map_nil, hs, hx, hr]
    exact h v w (by rw [List.append_nil]; exact hown) (grownBy_same _ _) (.inl rfl)
  · obtain ⟨v', w', hr, h2, h3, h4, h5⟩ := run_append_own_at (P := Try.prog) w base 37 o.type 29 i0 _ 2 16 Try.underlying37 hi0 hz0 hz1 hz2 rfl (by omega) v rs.length _ hown ⟨g, 0, none⟩ rs'.length cap (resCells rs') (by rw [hsrc.1]) (World.ownsRow.cells hsrc (g := g) rfl) (resCells_one rs') (by simp only [maxLen]; omega) (by omega) hbase
    unfold Oper.wp execOp
    simp only [ho, resolve, invoke, builtin, Sem.run_bind, Sem.run_pure, Result.andThen_ok, List.map_toArray, List.map_cons, List.map_nil, hs, hx, hr]
    refine h v' w' ?_ h3 h5
    unfold OwnRes
    rw [happ, List.length_append]
    exact h2
theorem own_keep_hi {w w' : World} {b n N : Nat} {e : TypeId} {sz : Nat} {v : Value} {xs : List Value} {row : Option Nat} (h : w.ownsRow b e sz v n xs) (hg : w.grownBy w' row) (hN : ∀ k, v.ownBlock = some k → k < N) (hr : ∀ k, row = some k → N ≤ k) : w'.ownsRow b e sz v n xs := by
  refine World.ownsRow.kept h hg ?_
  cases hv : v.ownBlock with
  | none => exact .inl rfl
  | some k =>
    right
    intro e
    have h1 := hN k hv
    have h2 := hr k e.symm
    omega
theorem own_empty (w : World) (B : Nat) (hB : B ≤ w.heap.size) : OwnRes (w.alloc (.cells #[] 29)) B (.slice (some ⟨w.heap.size, 0, none⟩) 0 0) [] :=
  ⟨rfl, .inr ⟨_, 0, #[], rfl, hB, Bk.made w 29 #[], Nat.le_refl _, by simp [maxLen], rfl, rfl⟩⟩

set_option maxRecDepth 100000 in
set_option maxHeartbeats 8000000 in
theorem parts_any (A B : Option Addr) (c d : Nat) (zs : List Int) (l : List Acc) (i : Int) (w : World) (h : Sl w w.heap.size A zs.length (ints zs)) (hl : SlAcc w w.heap.size B l) (hd : l.length ≤ d) (hi0 : 0 ≤ i) (hi1 : i < 256) :
    Calls Try.prog 7 #[memV A zs.length c, .slice B l.length d, .int .u8 i] w (BoolBelow true w) := by
  by_cases h1 : 60 < zs.length
  · go_enter Try.func7, Try.ntmps7
    go_wp2_with (go_at_call 10; refine (shown_any _).mono ?_; rintro e w1 ⟨rfl, hb⟩; have k0 := (Bk.made w 24 #[.slice A zs.length c]).keep hb; have hbl := below_tr (below_al (Below.refl w.heap.size w) _) hb; have c0 := k0.cell 0; simp at c0; clear hb)
    go_ret
    exact ⟨rfl, hbl⟩
  · by_cases h2 : 30 < l.length
    · go_enter Try.func7, Try.ntmps7
      go_wp2_with (go_at_call 10; refine (shown_any _).mono ?_; rintro e w1 ⟨rfl, hb⟩; have k0 := (Bk.made w 24 #[.slice A zs.length c]).keep hb; have hbl := below_tr (below_al (Below.refl w.heap.size w) _) hb; have c0 := k0.cell 0; simp at c0; clear hb)
      go_ret
      exact ⟨rfl, hbl⟩
    · have HM := Lib.hid h
      have HL := Lib.hid hl
      have m0 : 0 ≤ i % ((l.length : Int) + 1) := Int.emod_nonneg _ (by omega)
      have m1 : i % ((l.length : Int) + 1) < (l.length : Int) + 1 := Int.emod_lt_of_pos _ (by omega)
      obtain ⟨kk, hkk⟩ : ∃ kk : Nat, i % ((l.length : Int) + 1) = kk := ⟨(i % ((l.length : Int) + 1)).toNat, by omega⟩
      have hk1 : kk ≤ l.length := by omega
      clear h hl m0 m1
      go_enter Try.func7, Try.ntmps7
      go_wp2_with fail
      refine (shown_any _).mono ?_
      rintro e w1 ⟨rfl, hb⟩
      have k0 := (Bk.made w 24 #[.slice A zs.length c]).keep hb
      have hbl := below_tr (below_al (Below.refl w.heap.size w) _) hb
      have c0 := k0.cell 0
      simp at c0
      clear hb
      go_wp2_with fail
      (with_reducible refine (all_any A B w1.heap.size c d zs l _ (Nat.le_refl _) (MemAt.of_sl (HM.out.keepb hbl)) (HL.out.keepb hbl) (by omega) (by omega)).mono ?_)
      rintro e w2 ⟨X, cx, R, dr, rfl, hMx, hR, hb⟩
      have hn1 : (allToldOut zs l).length ≤ 1000000 := by unfold allToldOut; split <;> simp [allTold_length]; omega
      generalize hnR : (allToldOut zs l).length = nR at *
      have HNR := Lib.hid hnR
      clear hnR
      generalize heR : allErr zs l = eR at *
      have HER := Lib.hid heR
      clear heR
      replace k0 := k0.keep hb
      replace hbl := below_tr hbl hb
      have hs1' := hb.size
      clear hb c0
      have l0 := k0.lt
      obtain ⟨B1, d1, hs1, hc1⟩ := cut_h B l.length d kk hk1 hd
      have HC1 := Lib.hid hc1
      clear hc1
      go_upto_region 6 with fail
      have kx := Bk.made w2 24 #[.slice X zs.length cx]
      have hbx := below_al (Below.refl w2.heap.size w2) (.cells #[.slice X zs.length cx] 24)
      replace hMx := hMx.keep hs1' hbx
      replace hR := own_keepb hR hbx
      replace hbl := below_tr hbl hbx
      replace k0 := k0.keep hbx
      have hs2 := hbx.size
      clear hbx
      generalize w2.alloc (.cells #[.slice X zs.length cx] 24) = w3 at *
      have HX := Lib.hid (And.intro hMx (And.intro hR (And.intro hbl kx)))
      clear hMx hR hbl kx
      have l3 : w.heap.size < w3.heap.size := by omega
      have c0 := k0.cell 0
      simp at c0
      have HS : Hid (∀ w' : World, Below w3.heap.size w3 w' → (Below w3.heap.size w3 w' ∧ w'.cell? ⟨w.heap.size, 0, none⟩ = some (.slice A zs.length c))) := by
        apply Lib.hid
        intro w' hb
        exact ⟨hb, (bcellA hb l3).trans c0⟩
      have HN : Hid (∀ w' : World, Below w3.heap.size w3 w' → Calls Try.prog 17 #[.agg #[.slice A zs.length c], .slice B1 kk d1] w' (AllOut w3.heap.size zs (l.take kk) w')) := by
        apply Lib.hid
        intro w' hb
        have hbb := below_tr HX.out.2.2.1 hb
        exact all_n A B1 w3.heap.size c d1 zs.length kk zs (l.take kk) w' rfl (by simp; omega) hb.size (MemAt.of_sl ((HM.out.keepb HX.out.2.2.1).below hb)) (HC1.out _ _ l rfl (HL.out.keepb hbb)) (by omega) (by omega)
      have hb0 := Below.refl w3.heap.size w3
      clear c0
      go_cut [12, 13, 14] (fun s1 s2 s3 wx => PCut zs.length (allToldOut zs (l.take kk)).length (allErr zs (l.take kk)) (allCellsOut zs (l.take kk)) (allToldOut zs (l.take kk)) w3.heap.size w3 s1 s2 s3 wx)
      case first =>
        go_region_held3 (fun w' => Below w3.heap.size w3 w' ∧ w'.cell? ⟨w.heap.size, 0, none⟩ = some (.slice A zs.length c))
          ((refine HS.out _ ?_; repeat (first | exact hbc | exact hb0 | apply Below.drew | apply below_al | (refine below_setB ?_ (by omega) _ _))))
          (first | (go_at_call 17; refine (HN.out _ (‹Below w3.heap.size w3 _ ∧ _›.1)).mono ?_; rintro e w4 ⟨Y, cy, S, ds, rfl, hM2, hR2, hb2⟩; have hbc := below_tr (‹Below w3.heap.size w3 _ ∧ _›.1) hb2; have bc := bcells (below_undrew hb2); have bf := bfrozens (below_undrew hb2); (try have hq1 : w3.heap.size < w4.heap.size := by (have := (below_undrew hb2).size; simp at this; omega))))
        all_goals (go_wp2_with fail; go_meet)
        · exact pcut1 rfl hbc hM2 hR2 (Nat.le_refl _) (Nat.le_refl _)
        · exact pcut2 rfl hb2 hM2 hR2 (Nat.le_refl _)
      case rest =>
        obtain ⟨p, Y, cy, S, ds, rfl, rfl, rfl, hp, kp, hMy, hS, hb4⟩ := hcut
        obtain ⟨ap1, ap2, ap3⟩ := all_app (l.take kk) (l.drop kk) zs
        rw [List.take_append_drop] at ap1 ap2 ap3
        have ap4 := HER.out
        obtain ⟨hMx, hR, hbl, kx⟩ := HX.out
        clear HX
        replace kx := kx.keep hb4
        replace hMx := hMx.keep (by omega) hb4
        replace hR := own_keepb hR hb4
        replace hbl := below_tr hbl hb4
        have hs4 := hb4.size
        clear hs1 HC1 HS HN hb0 k0 hb4
        by_cases he1 : allErr zs (l.take kk) = 0
        · rw [he1]
          rw [if_pos he1] at ap3
          have E1 : allCellsOut zs (l.take kk) = allCells zs (l.take kk) := by simp [allCellsOut, he1]
          have E2 : allToldOut zs (l.take kk) = allTold zs (l.take kk) := by simp [allToldOut, he1]
          rw [E1] at hMy
          rw [E2] at hS
          rw [E2]
          have hl1 := allTold_length (l.take kk) zs
          have hcl := allCells_length (l.take kk) zs
          generalize allTold zs (l.take kk) = rs1 at *
          generalize allCells zs (l.take kk) = cs1 at *
          have hm1 : rs1.length ≤ 30 := by rw [hl1]; simp; omega
          obtain ⟨B2, d2, hs2', hc2⟩ := cut_l B l.length d kk hk1 hd
          have hl2 : (l.drop kk).length = l.length - kk := by simp
          have HC2 := Lib.hid (hc2 wc wc.heap.size l rfl (HL.out.keepb hbl))
          have HC3 := Lib.hid hc2
          have HAP := Lib.hid (And.intro ap1 (And.intro ap2 (And.intro ap3 ap4)))
          have HX := Lib.hid (And.intro hMx (And.intro hR (And.intro hbl (And.intro kx (And.intro hMy hS)))))
          have HLN := Lib.hid (And.intro hl2 hcl)
          have HB := Lib.hid hbl
          clear ap1 ap2 ap3 ap4 hc2 hl2 E1 E2 he1 hl1 hcl hMx hR kx hMy hS hbl HER
          have lp := kp.lt
          have c1 := kp.cell 0
          simp at c1
          have HS : Hid (∀ w' : World, Below wc.heap.size wc w' → (Below wc.heap.size wc w' ∧ w'.cell? ⟨p, 0, none⟩ = some (.slice Y zs.length cy))) := by
            apply Lib.hid
            intro w' hb
            exact ⟨hb, (bcellA hb lp).trans c1⟩
          have HN : Hid (∀ w' : World, Below wc.heap.size wc w' → Calls Try.prog 17 #[.agg #[.slice Y zs.length cy], .slice B2 (l.length - kk) d2] w' (AllOut w3.heap.size cs1 (l.drop kk) w')) := by
            apply Lib.hid
            intro w' hb
            exact all_n Y B2 w3.heap.size cy d2 zs.length (l.length - kk) cs1 (l.drop kk) w' HLN.out.2 HLN.out.1 (Nat.le_trans hs4 hb.size) (HX.out.2.2.2.2.1.keep hs4 hb) (HC3.out _ _ l rfl (HL.out.keepb (below_tr HB.out hb))) (by omega) (by omega)
          have hb0 := Below.refl wc.heap.size wc
          go_upto_region 9 with fail
          go_cut [15, 16, 17] (fun s1 s2 s3 wx => PCut cs1.length (allToldOut cs1 (l.drop kk)).length (allErr cs1 (l.drop kk)) (allCellsOut cs1 (l.drop kk)) (allToldOut cs1 (l.drop kk)) w3.heap.size wc s1 s2 s3 wx)
          case first =>
            go_region_held3 (fun w' => Below wc.heap.size wc w' ∧ w'.cell? ⟨p, 0, none⟩ = some (.slice Y zs.length cy))
              ((refine HS.out _ ?_; repeat (first | exact hbc | exact hb0 | apply Below.drew | apply below_al | (refine below_setB ?_ (by omega) _ _))))
              (first | (go_at_call 17; refine (HN.out _ (‹Below wc.heap.size wc _ ∧ _›.1)).mono ?_; rintro e w5 ⟨Z, cz, T, dt, rfl, hM2, hR2, hb2⟩; have hbc := below_tr (‹Below wc.heap.size wc _ ∧ _›.1) hb2; have bc := bcells (below_undrew hb2); have bf := bfrozens (below_undrew hb2); (try have hq1 : wc.heap.size < w5.heap.size := by (have := (below_undrew hb2).size; simp at this; omega))))
            all_goals (go_wp2_with fail; go_meet)
            · exact pcut1 rfl hbc hM2 hR2 (Nat.le_refl _) hs4
            · exact pcut2 rfl hb2 hM2 hR2 hs4
          case rest =>
            obtain ⟨q, Z, cz, T, dt, rfl, rfl, rfl, hq, kq, hMz, hT, hb5⟩ := hcut
            rw [HLN.out.2] at kq hMz
            obtain ⟨ap1, ap2, ap3, ap4⟩ := HAP.out
            obtain ⟨hMx, hR, hbl, kx, _, hS⟩ := HX.out
            replace kx := kx.keep hb5
            replace hMx := hMx.keep (by omega) hb5
            replace hR := own_keepb hR hb5
            replace hS := own_keepb hS hb5
            replace hbl := below_tr hbl hb5
            have hs5 := hb5.size
            have e : eR = allErr cs1 (l.drop kk) := by rw [← ap4, ap3]
            have hl3 := allTold_length (l.drop kk) cs1
            clear HAP HX HS HN hb0 kp hb5 hs2' HC2 HC3 c1
            by_cases he2 : allErr cs1 (l.drop kk) = 0
            · have E1 : allCellsOut cs1 (l.drop kk) = allCells zs l := by rw [ap1]; simp [allCellsOut, he2]
              have E2 : allToldOut cs1 (l.drop kk) = allTold cs1 (l.drop kk) := by simp [allToldOut, he2]
              have he0 : allErr zs l = 0 := by rw [ap3, he2]
              have E3 : allCellsOut zs l = allCells zs l := by simp [allCellsOut, he0]
              have E4 : allToldOut zs l = rs1 ++ allTold cs1 (l.drop kk) := by rw [← ap2]; simp [allToldOut, he0]
              have hnR := HNR.out
              rw [E1] at hMz
              rw [E2] at hT
              rw [E3] at hMx
              rw [E4] at hR hnR
              rw [E2, he2]
              obtain rfl : eR = 0 := by rw [e, he2]
              generalize allTold cs1 (l.drop kk) = rs2 at *
              generalize allCells zs l = cs at *
              have hm2 : rs2.length ≤ 30 := by rw [hl3]; simp; omega
              have HNR2 := Lib.hid hnR
              have HX := Lib.hid (And.intro hMx (And.intro hR (And.intro hS (And.intro hT hMz))))
              clear ap1 ap2 ap3 ap4 E1 E2 E3 E4 he0 he2 e hnR hMx hR hS hT hMz hl3 HNR HLN
              have cx0 := kx.cell 0
              have cq0 := kq.cell 0
              simp at cx0 cq0
              go_wp2_with fail
              (with_reducible refine (same_self X Z zs.length cx cz cs _ w1.heap.size w3.heap.size HX.out.1 HX.out.2.2.2.2 (by omega) (by omega) (by omega)).mono ?_)
              rintro e w6 ⟨rfl, hb⟩
              have hR := own_keepb HX.out.2.1 hb
              have hS := own_keepb HX.out.2.2.1 hb
              have hT := own_keepb HX.out.2.2.2.1 hb
              replace hbl := below_tr hbl hb
              clear hb cx0 cq0 kx kq HX
              have nR1 := fun k hk => (World.ownsRow.lt hR k hk).2
              have nT1 := fun k hk => (World.ownsRow.lt hT k hk).2
              have HR := Lib.hid (And.intro (World.ownsRow.alloc hR (.cells #[] 29)) nR1)
              have HS := Lib.hid (World.ownsRow.alloc hS (.cells #[] 29))
              have HT := Lib.hid (And.intro (World.ownsRow.alloc hT (.cells #[] 29)) nT1)
              have HBL := Lib.hid (below_al hbl (.cells #[] 29))
              have hs6 := hbl.size
              clear hR hS hT nR1 nT1 hbl
              go_wp2_with (at_builtin; refine wpList_append_res (by rfl) (.tmp 88) (.tmp 89) rfl w6.heap.size _ _ _ [] rs1 rfl (own_empty w6 _ (Nat.le_refl _)) rfl HS.out (by simp; omega) (by simp) ?_)
              intro v1 w8 hv1 hg1 hat1
              have HV1 := Lib.hid (And.intro hv1 (And.intro hg1 hat1))
              clear hv1 hg1 hat1
              go_wp2_with (at_builtin; go_must (refine wpList_append_res (by rfl) (.tmp 90) (.tmp 91) rfl w6.heap.size _ v1 _ rs1 rs2 rfl HV1.out.1 rfl (own_keep_hi HT.out.1 HV1.out.2.1 HT.out.2 (fun k hk => by simp [Value.ownBlock] at hk; omega)) (by omega) (by have := HV1.out.2.1.size; simp at this; omega) ?_))
              intro v2 w9 hv2 hg2 hat2
              obtain ⟨G, cap, rfl⟩ := own_slice hv2
              have HV2 := Lib.hid (And.intro hv2 hg2)
              clear hv2 hg2 hat2
              have hrow1 : ∀ k, Value.ownBlock (.slice (some ⟨w6.heap.size, 0, none⟩) 0 0) = some k → w6.heap.size ≤ k := fun k hk => by simp [Value.ownBlock] at hk; omega
              have hrow2 : ∀ k, v1.ownBlock = some k → w6.heap.size ≤ k := fun k hk => (World.ownsRow.lt HV1.out.1 k hk).1
              have hR9 := own_keep_hi (own_keep_hi HR.out.1 HV1.out.2.1 HR.out.2 hrow1) HV2.out.2 HR.out.2 hrow2
              have hs8 := HV1.out.2.1.size
              simp at hs8
              have hb8 := HBL.out.grown HV1.out.2.1 HBL.out.size (fun k hk => by have := hrow1 k hk; omega)
              have hb9 := hb8.grown HV2.out.2 hb8.size (fun k hk => by have := hrow2 k hk; omega)
              have hlen : (rs1 ++ rs2).length = nR := HNR2.out
              have hv9 := HV2.out.1
              have hnr := HNR2.out
              rw [hlen]
              go_wp2_with fail
              (with_reducible refine (told_self R G nR dr cap (rs1 ++ rs2) _ w1.heap.size w6.heap.size ?_ ?_ hnr (by omega)).mono ?_)
              · exact hR9
              · rw [hnr] at hv9
                exact hv9
              · rintro e w10 ⟨rfl, hb⟩
                have HBZ := Lib.hid (below_tr hb9 hb)
                clear hb hb9 hb8 hR9 hv9 hlen hnr hrow1 hrow2 hs8
                go_wp2
                go_ret
                exact ⟨rfl, HBZ.out⟩
            · generalize allErr cs1 (l.drop kk) = e2 at *
              have g1 : (e2 != 0) = true := by simp [he2]
              have g2 : (eR == e2) = true := by simp [e]
              clear ap1 ap2 ap3 ap4 e he2
              go_wp2
              go_ret
              exact ⟨rfl, hbl⟩
        · have e : eR = allErr zs (l.take kk) := by rw [← ap4, ap3, if_neg he1]
          generalize allErr zs (l.take kk) = e1 at *
          have g1 : (e1 != 0) = true := by simp [he1]
          have g2 : (eR == e1) = true := by simp [e]
          clear ap1 ap2 ap3 ap4 e he1 HER
          go_wp2
          go_ret
          exact ⟨rfl, hbl⟩
section
open Go.ChangeShapes Go.WideShapes Go.ChangeAt Go.Joins Go.Deep
variable {H : Type} {enc : TypeId × Value → H} {W : World} {base : Nat} {v : Value} {d : DataW H} {p : List MemPlace}
theorem o_accs_cap (hv : Value.okWide Try.prog W .any base 36 v) (h : DataW.Trod enc Try.prog W 0 (fun _ => true) true 36 v d p) : ∃ (A : Option Addr) (c : Nat) (l : List Acc), v = .slice A l.length c ∧ SlAcc W W.heap.size A l ∧ l.length ≤ c := by
  have h' := h
  obtain ⟨A, c, l, rfl, hs⟩ := o_accs hv h
  refine ⟨A, c, l, rfl, hs, ?_⟩
  obtain ⟨fuel, hf⟩ := h'
  rcases open_slice Try.underlying36 (by simpa [Value.cells] using hf) with ⟨h0, _⟩ | ⟨a, len, cap, m, n, D, Pl, h0, _, hl, _⟩
  · simp at h0
    simp [h0]
  · simp at h0
    omega
end
end Go.Proofs.Ytdajnmmjmfhihaa
