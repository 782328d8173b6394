/- arena's give. Printed by give_gen.py. -/
import Derived.Test.YtgjdjgainjedhaaTake
namespace Go.Proofs.Ytgjdjgainjedhaa
open Go.RowKit
set_option linter.unusedVariables false
attribute [local go_sem ↓] Go.wp_at_zero Go.wp_at_succ

def GvRel (B gp go : Nat) (l : Ly) (A : Option Addr) (cap : Nat) (a : Int) (log : Log) (w wr : World) : Prop :=
  ∃ i, i ≤ log.length ∧ PrSt wr B gp l A cap i log ∧ Stp gp w wr ∧ Bk wr go 63 outZ ∧ giveM l a 0 log = giveM l a i (log.drop i)
set_option maxRecDepth 100000 in
set_option maxHeartbeats 4000000 in
theorem give_any {w : World} {B gp : Nat} {l : Ly} {A : Option Addr} {cap : Nat} {log : Log} (a : Int) (ha : a ≤ 9223372036854775807) (h : PrSt w B gp l A cap 0 log) (f : LyFull l) : Calls Try.prog 65 #[ptr gp, .int .i64 a] w (ArPost gp (giveM l a 0 log) w) := by
  have HF := Lib.hid f
  have zg := h.kp.lt
  have hle := h.le
  have hrel0 : GvRel B gp w.heap.size l A cap a log w (w.alloc (.cells outZ 63)) := ⟨0, Nat.zero_le _, h.keep (below_al (Below.refl _ _) _), (Stp.refl gp w).alloc _, Bk.made w 63 outZ, rfl⟩
  have HR := Lib.hid hrel0
  clear h f hrel0
  go_enter Try.func65, Try.ntmps65
  go_wp2_with fail
  generalize w.alloc (.cells outZ 63) = w1 at *
  obtain ⟨go, hgo⟩ : ∃ g, w.heap.size = g := ⟨_, rfl⟩
  rw [hgo] at HR zg ⊢
  have HGO := Lib.hid hgo
  clear hgo
  go_loopw [5] (fun _ wr => GvRel B gp go l A cap a log w wr) (fun _ wr => log.length + 1 - madeOf gp wr)
  case atStart => exact HR.out
  case round =>
    clear HR
    obtain ⟨i, hi, hp, hst, ko, htk⟩ := hrel
    have hmd := madeOf_eq hp.kp
    have HTK := Lib.hid (And.intro htk hmd)
    clear htk hmd
    have c12 := hp.kp.cell 12
    have lg := hp.kp.lt
    simp at c12
    go_upto_region 1 with fail
    go_wp2_with fail
    cases hx : log[i]? with
    | none =>
      have hil : i = log.length := by have := List.getElem?_eq_none_iff.1 hx; omega
      (with_reducible refine (load_asks l.free hp hil).mono ?_)
      rintro e w2 ⟨rfl, hb⟩
      exact ⟨rfl, arPost_ask (HTK.out.1.trans (gv_ask0 hx)) (hst.trans (Stp.of_below gp hb))⟩
    | some x =>
      obtain ⟨x1, x2⟩ := x
      (with_reducible refine (load_told l.free hp hx).mono ?_)
      rintro e w2 ⟨rfl, hp2, hs2⟩
      replace hst := hst.trans hs2
      replace ko := hs2.keep ko (by omega)
      clear hs2 hp c12 lg
      have HX := Lib.hid hx
      have hil : i < log.length := (List.getElem?_eq_some_iff.1 hx).1
      clear hx
      go_upto_region 2 with fail
      go_wp2_with fail
      (with_reducible refine (of_any x1 _).mono ?_)
      rintro e w3 ⟨rfl, hb⟩
      replace hp2 := hp2.keep hb
      replace hst := hst.trans (Stp.of_below gp hb)
      replace ko := ko.keep hb
      clear hb
      obtain ⟨ix, hix⟩ : ∃ z, x1 % 65536 = z := ⟨_, rfl⟩
      obtain ⟨mk, hmk⟩ : ∃ b, (x1 / 65536 % 2 == 1) = b := ⟨_, rfl⟩
      obtain ⟨ct, hct⟩ : ∃ z, x1 / 131072 % 268435456 = z := ⟨_, rfl⟩
      have hib : 0 ≤ ix ∧ ix < 65536 := by omega
      rw [hix, hmk, hct]
      have HIX := Lib.hid (And.intro hix hct)
      clear hix hmk hct
      go_upto_region 3 with fail
      have kr := Bk.made w3 82 #[.int .i64 ix, .bool mk, .int .i64 ct]
      have zr : w.heap.size ≤ w3.heap.size := hst.size
      have zg3 := hp2.kp.lt
      have zo3 := ko.lt
      replace hp2 := hp2.keep (below_al (Below.refl _ _) (.cells #[.int .i64 ix, .bool mk, .int .i64 ct] 82))
      replace hst := hst.alloc (.cells #[.int .i64 ix, .bool mk, .int .i64 ct] 82)
      replace ko := ko.alloc (.cells #[.int .i64 ix, .bool mk, .int .i64 ct] 82)
      generalize w3.alloc (.cells #[.int .i64 ix, .bool mk, .int .i64 ct] 82) = w4 at *
      generalize w3.heap.size = gr at *
      refine wp_region_E (S := fun w' => (∃ i', Bk w' gp 133 (progC l A log.length cap i')) ∧ Bk w' gr 82 #[.int .i64 ix, .bool mk, .int .i64 ct]) (E := fun _ => false) (by kernel_rfl) ?_
      replace hp2 := hp2.drew
      replace ko := ko.drew
      replace kr := kr.drew
      replace hst := hst.trans (Stp.of_below gp (below_drew' (Below.refl w4.heap.size w4)))
      generalize w4.drew = w5 at *
      refine wpAnyE_take (i := 0) (oi := _) (v := .pointer (some ⟨gp, 0, none⟩)) rfl (by kernel_rfl) (by kernel_rfl) (by kernel_rfl) (by kernel_rfl) (fun _ _ _ h => h) (Or.inl ⟨by rfl, ?_⟩) ⟨⟨_, hp2.kp⟩, kr⟩ ?_
      · intro w' hSw
        (try simp only [List.getElem_toArray, List.getElem_cons_zero])
        go_simp
      (try simp only [List.getElem_toArray, List.getElem_cons_zero, Act.put, List.setIfInBounds_toArray, List.set_cons_zero, List.set_cons_succ])
      refine wpAnyE_take (i := 1) (oi := _) (v := .pointer (some ⟨gp, 0, none⟩)) rfl (by kernel_rfl) (by kernel_rfl) (by kernel_rfl) (by kernel_rfl) (fun _ _ _ h => h) (Or.inl ⟨by rfl, ?_⟩) ⟨⟨_, hp2.kp⟩, kr⟩ ?_
      · intro w' hSw
        (try simp only [List.getElem_toArray, List.getElem_cons_succ, List.getElem_cons_zero])
        go_simp
      (try simp only [List.getElem_toArray, List.getElem_cons_succ, List.getElem_cons_zero, Act.put, List.setIfInBounds_toArray, List.set_cons_zero, List.set_cons_succ])
      refine wpAnyE_take (i := 2) (oi := _) (v := .pointer (some ⟨gp, 0, none⟩)) rfl (by kernel_rfl) (by kernel_rfl) (by kernel_rfl) (by kernel_rfl) (fun _ _ _ h => h) (Or.inl ⟨by rfl, ?_⟩) ⟨⟨_, hp2.kp⟩, kr⟩ ?_
      · intro w' hSw
        (try simp only [List.getElem_toArray, List.getElem_cons_succ, List.getElem_cons_zero])
        go_simp
      (try simp only [List.getElem_toArray, List.getElem_cons_succ, List.getElem_cons_zero, Act.put, List.setIfInBounds_toArray, List.set_cons_zero, List.set_cons_succ])
      refine wpAnyE_take (i := 3) (oi := _) (v := .pointer (some ⟨gp, 0, none⟩)) rfl (by kernel_rfl) (by kernel_rfl) (by kernel_rfl) (by kernel_rfl) (fun _ _ _ h => h) (Or.inl ⟨by rfl, ?_⟩) ⟨⟨_, hp2.kp⟩, kr⟩ ?_
      · intro w' hSw
        (try simp only [List.getElem_toArray, List.getElem_cons_succ, List.getElem_cons_zero])
        go_simp
      (try simp only [List.getElem_toArray, List.getElem_cons_succ, List.getElem_cons_zero, Act.put, List.setIfInBounds_toArray, List.set_cons_zero, List.set_cons_succ])
      refine wpAnyE_take (i := 4) (oi := _) (v := .agg (lyC l)) rfl (by kernel_rfl) (by kernel_rfl) (by kernel_rfl) (by kernel_rfl) (fun _ _ _ h => h) (Or.inl ⟨by rfl, ?_⟩) ⟨⟨_, hp2.kp⟩, kr⟩ ?_
      · intro w' hSw
        obtain ⟨i9, k9⟩ := hSw.1
        (try simp only [List.getElem_toArray, List.getElem_cons_succ, List.getElem_cons_zero])
        simp only [execOp, Instr.loadAt, Instr.sureAddr, Sem.run_bind, Sem.run_pure]
        rw [show (Act.eval _ (Operand.tmp 19)) = Value.pointer (some ⟨gp, 0, none⟩) from rfl]
        simp only [Sem.run_pure, Result.andThen_ok, run_loadVar_sub w' gp 0 40 (lyC l) _ (prog_sub k9) Try.underlying40 rfl (by kernel_rfl)]
      (try simp only [List.getElem_toArray, List.getElem_cons_succ, List.getElem_cons_zero, Act.put, List.setIfInBounds_toArray, List.set_cons_zero, List.set_cons_succ])
      refine wpAnyE_take (i := 5) (oi := _) (v := .int .i64 a) rfl (by kernel_rfl) (by kernel_rfl) (by kernel_rfl) (by kernel_rfl) (fun _ _ _ h => h) (Or.inl ⟨by rfl, ?_⟩) ⟨⟨_, hp2.kp⟩, kr⟩ ?_
      · intro w' hSw
        (try simp only [List.getElem_toArray, List.getElem_cons_succ, List.getElem_cons_zero])
        go_simp
      (try simp only [List.getElem_toArray, List.getElem_cons_succ, List.getElem_cons_zero, Act.put, List.setIfInBounds_toArray, List.set_cons_zero, List.set_cons_succ])
      refine wpAnyE_take (i := 7) (oi := _) (v := .pointer (some ⟨gr, 0, none⟩)) rfl (by kernel_rfl) (by kernel_rfl) (by kernel_rfl) (by kernel_rfl) (fun _ _ _ h => h) (Or.inl ⟨by rfl, ?_⟩) ⟨⟨_, hp2.kp⟩, kr⟩ ?_
      · intro w' hSw
        (try simp only [List.getElem_toArray, List.getElem_cons_succ, List.getElem_cons_zero])
        go_simp
      (try simp only [List.getElem_toArray, List.getElem_cons_succ, List.getElem_cons_zero, Act.put, List.setIfInBounds_toArray, List.set_cons_zero, List.set_cons_succ])
      refine wpAnyE_take (i := 8) (oi := _) (v := .int .i64 ix) rfl (by kernel_rfl) (by kernel_rfl) (by kernel_rfl) (by kernel_rfl) (fun _ _ _ h => h) (Or.inl ⟨by rfl, ?_⟩) ⟨⟨_, hp2.kp⟩, kr⟩ ?_
      · intro w' hSw
        have s1 := hSw.2.cell 0
        (try simp at s1)
        (try simp only [List.getElem_toArray, List.getElem_cons_succ, List.getElem_cons_zero])
        go_simp
      (try simp only [List.getElem_toArray, List.getElem_cons_succ, List.getElem_cons_zero, Act.put, List.setIfInBounds_toArray, List.set_cons_zero, List.set_cons_succ])
      refine wpAnyE_one (i := 6) (o := _) (by kernel_rfl) rfl (fun K hK => ?_)
      (try simp only [List.getElem_toArray, List.getElem_cons_succ, List.getElem_cons_zero])
      go_simp
      (with_reducible refine (node_any l a 7 _ HF.out ha).mono ?_)
      rintro e w6 ⟨rfl, hb⟩
      replace hp2 := hp2.keep hb
      replace ko := ko.keep hb
      replace kr := kr.keep hb
      replace hst := hst.trans (Stp.of_below gp hb)
      clear hb
      refine hK.out _ _ (fun _ => ⟨⟨_, hp2.kp⟩, kr⟩) ?_
      clear hK K
      (try simp only [List.getElem_toArray, List.getElem_cons_succ, List.getElem_cons_zero, Act.put, List.setIfInBounds_toArray, List.set_cons_zero, List.set_cons_succ])
      refine wpAnyE_one (i := 9) (o := _) (by kernel_rfl) rfl (fun K hK => ?_)
      (try simp only [List.getElem_toArray, List.getElem_cons_succ, List.getElem_cons_zero])
      go_simp
      cases hy : log[i + 1]? with
      | none =>
        have hil2 : i + 1 = log.length := by have := List.getElem?_eq_none_iff.1 hy; omega
        (with_reducible refine (store_asks (nodeAt l a 7) ix hp2 hil2).mono ?_)
        rintro e wq ⟨rfl, hb⟩
        exact ⟨rfl, arPost_ask (HTK.out.1.trans (by rw [gv_ask1 HX.out hy, (show idxOf x1 = ix from HIX.out.1)])) (hst.trans (Stp.of_below gp hb))⟩
      | some y =>
        obtain ⟨y1, y2⟩ := y
        (with_reducible refine (store_told (nodeAt l a 7) ix hp2 hy).mono ?_)
        rintro e w7 ⟨rfl, hp3, hs2⟩
        replace hst := hst.trans hs2
        replace ko := hs2.keep ko (by omega)
        replace kr := hs2.keep kr (by omega)
        clear hs2
        have HY := Lib.hid hy
        have hil2 : i + 1 < log.length := (List.getElem?_eq_some_iff.1 hy).1
        clear hy hp2
        refine hK.out _ _ (fun _ => ⟨⟨_, hp3.kp⟩, kr⟩) ?_
        clear hK K
        (try simp only [List.getElem_toArray, List.getElem_cons_succ, List.getElem_cons_zero, Act.put, List.setIfInBounds_toArray, List.set_cons_zero, List.set_cons_succ])
        refine wpAnyE_done (by kernel_rfl) ?_ _
        go_upto_region 4 with fail
        refine wp_region_E (S := fun w' => (∃ i', Bk w' gp 133 (progC l A log.length cap i')) ∧ Bk w' gr 82 #[.int .i64 ix, .bool mk, .int .i64 ct]) (E := fun _ => false) (by kernel_rfl) ?_
        replace hp3 := hp3.drew
        replace ko := ko.drew
        replace kr := kr.drew
        replace hst := hst.trans (Stp.of_below gp (below_drew' (Below.refl w7.heap.size w7)))
        generalize w7.drew = w5 at *
        refine wpAnyE_take (i := 0) (oi := _) (v := .pointer (some ⟨gp, 0, none⟩)) rfl (by kernel_rfl) (by kernel_rfl) (by kernel_rfl) (by kernel_rfl) (fun _ _ _ h => h) (Or.inl ⟨by rfl, ?_⟩) ⟨⟨_, hp3.kp⟩, kr⟩ ?_
        · intro w' hSw
          (try simp only [List.getElem_toArray, List.getElem_cons_zero])
          go_simp
        (try simp only [List.getElem_toArray, List.getElem_cons_zero, Act.put, List.setIfInBounds_toArray, List.set_cons_zero, List.set_cons_succ])
        refine wpAnyE_take (i := 1) (oi := _) (v := .pointer (some ⟨gp, 0, none⟩)) rfl (by kernel_rfl) (by kernel_rfl) (by kernel_rfl) (by kernel_rfl) (fun _ _ _ h => h) (Or.inl ⟨by rfl, ?_⟩) ⟨⟨_, hp3.kp⟩, kr⟩ ?_
        · intro w' hSw
          (try simp only [List.getElem_toArray, List.getElem_cons_succ, List.getElem_cons_zero])
          go_simp
        (try simp only [List.getElem_toArray, List.getElem_cons_succ, List.getElem_cons_zero, Act.put, List.setIfInBounds_toArray, List.set_cons_zero, List.set_cons_succ])
        refine wpAnyE_take (i := 2) (oi := _) (v := .pointer (some ⟨gp, 0, none⟩)) rfl (by kernel_rfl) (by kernel_rfl) (by kernel_rfl) (by kernel_rfl) (fun _ _ _ h => h) (Or.inl ⟨by rfl, ?_⟩) ⟨⟨_, hp3.kp⟩, kr⟩ ?_
        · intro w' hSw
          (try simp only [List.getElem_toArray, List.getElem_cons_succ, List.getElem_cons_zero])
          go_simp
        (try simp only [List.getElem_toArray, List.getElem_cons_succ, List.getElem_cons_zero, Act.put, List.setIfInBounds_toArray, List.set_cons_zero, List.set_cons_succ])
        refine wpAnyE_take (i := 3) (oi := _) (v := .pointer (some ⟨gp, 0, none⟩)) rfl (by kernel_rfl) (by kernel_rfl) (by kernel_rfl) (by kernel_rfl) (fun _ _ _ h => h) (Or.inl ⟨by rfl, ?_⟩) ⟨⟨_, hp3.kp⟩, kr⟩ ?_
        · intro w' hSw
          (try simp only [List.getElem_toArray, List.getElem_cons_succ, List.getElem_cons_zero])
          go_simp
        (try simp only [List.getElem_toArray, List.getElem_cons_succ, List.getElem_cons_zero, Act.put, List.setIfInBounds_toArray, List.set_cons_zero, List.set_cons_succ])
        refine wpAnyE_take (i := 4) (oi := _) (v := .pointer (some ⟨gp, 12, none⟩)) rfl (by kernel_rfl) (by kernel_rfl) (by kernel_rfl) (by kernel_rfl) (fun _ _ _ h => h) (Or.inl ⟨by rfl, ?_⟩) ⟨⟨_, hp3.kp⟩, kr⟩ ?_
        · intro w' hSw
          (try simp only [List.getElem_toArray, List.getElem_cons_succ, List.getElem_cons_zero])
          go_simp
        (try simp only [List.getElem_toArray, List.getElem_cons_succ, List.getElem_cons_zero, Act.put, List.setIfInBounds_toArray, List.set_cons_zero, List.set_cons_succ])
        refine wpAnyE_take (i := 5) (oi := _) (v := .int .i64 l.free) rfl (by kernel_rfl) (by kernel_rfl) (by kernel_rfl) (by kernel_rfl) (fun _ _ _ h => h) (Or.inl ⟨by rfl, ?_⟩) ⟨⟨_, hp3.kp⟩, kr⟩ ?_
        · intro w' hSw
          obtain ⟨i9, k9⟩ := hSw.1
          have s1 := k9.cell 12
          (try simp at s1)
          (try simp only [List.getElem_toArray, List.getElem_cons_succ, List.getElem_cons_zero])
          go_simp
        (try simp only [List.getElem_toArray, List.getElem_cons_succ, List.getElem_cons_zero, Act.put, List.setIfInBounds_toArray, List.set_cons_zero, List.set_cons_succ])
        refine wpAnyE_take (i := 6) (oi := _) (v := .int .i64 x1) rfl (by kernel_rfl) (by kernel_rfl) (by kernel_rfl) (by kernel_rfl) (fun _ _ _ h => h) (Or.inl ⟨by rfl, ?_⟩) ⟨⟨_, hp3.kp⟩, kr⟩ ?_
        · intro w' hSw
          (try simp only [List.getElem_toArray, List.getElem_cons_succ, List.getElem_cons_zero])
          go_simp
        (try simp only [List.getElem_toArray, List.getElem_cons_succ, List.getElem_cons_zero, Act.put, List.setIfInBounds_toArray, List.set_cons_zero, List.set_cons_succ])
        refine wpAnyE_take (i := 7) (oi := _) (v := .agg #[.int .i64 ix, .bool mk, .int .i64 ct]) rfl (by kernel_rfl) (by kernel_rfl) (by kernel_rfl) (by kernel_rfl) (fun _ _ _ h => h) (Or.inl ⟨by rfl, ?_⟩) ⟨⟨_, hp3.kp⟩, kr⟩ ?_
        · intro w' hSw
          have s1 := hSw.2.cell 0
          have s2 := hSw.2.cell 1
          have s3 := hSw.2.cell 2
          (try simp at s1 s2 s3)
          (try simp only [List.getElem_toArray, List.getElem_cons_succ, List.getElem_cons_zero])
          go_simp
        (try simp only [List.getElem_toArray, List.getElem_cons_succ, List.getElem_cons_zero, Act.put, List.setIfInBounds_toArray, List.set_cons_zero, List.set_cons_succ])
        refine wpAnyE_take (i := 8) (oi := _) (v := .int .i64 a) rfl (by kernel_rfl) (by kernel_rfl) (by kernel_rfl) (by kernel_rfl) (fun _ _ _ h => h) (Or.inl ⟨by rfl, ?_⟩) ⟨⟨_, hp3.kp⟩, kr⟩ ?_
        · intro w' hSw
          (try simp only [List.getElem_toArray, List.getElem_cons_succ, List.getElem_cons_zero])
          go_simp
        (try simp only [List.getElem_toArray, List.getElem_cons_succ, List.getElem_cons_zero, Act.put, List.setIfInBounds_toArray, List.set_cons_zero, List.set_cons_succ])
        refine wpAnyE_one (i := 9) (o := _) (by kernel_rfl) rfl (fun K hK => ?_)
        (try simp only [List.getElem_toArray, List.getElem_cons_succ, List.getElem_cons_zero])
        go_simp
        (with_reducible refine (wturn_any ix mk ct a _).mono ?_)
        rintro e w6 ⟨rfl, hb⟩
        replace hp3 := hp3.keep hb
        replace ko := ko.keep hb
        replace kr := kr.keep hb
        replace hst := hst.trans (Stp.of_below gp hb)
        clear hb
        refine hK.out _ _ (fun _ => ⟨⟨_, hp3.kp⟩, kr⟩) ?_
        clear hK K
        (try simp only [List.getElem_toArray, List.getElem_cons_succ, List.getElem_cons_zero, Act.put, List.setIfInBounds_toArray, List.set_cons_zero, List.set_cons_succ])
        refine wpAnyE_one (i := 10) (o := _) (by kernel_rfl) rfl (fun K hK => ?_)
        (try simp only [List.getElem_toArray, List.getElem_cons_succ, List.getElem_cons_zero])
        go_simp
        (with_reducible refine (pack_any (a % 65536) false ((ct + 1) % 268435456) _).mono ?_)
        rintro e w8 ⟨rfl, hb⟩
        replace hp3 := hp3.keep hb
        replace ko := ko.keep hb
        replace kr := kr.keep hb
        replace hst := hst.trans (Stp.of_below gp hb)
        clear hb
        obtain ⟨tw, htw⟩ : ∃ z, packI (a % 65536) false ((ct + 1) % 268435456) = z := ⟨_, rfl⟩
        have htw2 : turnW x1 a = tw := by
          unfold turnW
          rw [show cntOf x1 = ct from HIX.out.2]
          exact htw
        rw [htw]
        have HTW := Lib.hid htw2
        clear htw htw2
        refine hK.out _ _ (fun _ => ⟨⟨_, hp3.kp⟩, kr⟩) ?_
        clear hK K
        (try simp only [List.getElem_toArray, List.getElem_cons_succ, List.getElem_cons_zero, Act.put, List.setIfInBounds_toArray, List.set_cons_zero, List.set_cons_succ])
        refine wpAnyE_one (i := 11) (o := _) (by kernel_rfl) rfl (fun K hK => ?_)
        (try simp only [List.getElem_toArray, List.getElem_cons_succ, List.getElem_cons_zero])
        go_simp
        cases hy : log[i + 2]? with
        | none =>
          have hil2 : i + 1 + 1 = log.length := by have := List.getElem?_eq_none_iff.1 hy; omega
          (with_reducible refine (cas_asks l.free x1 tw hp3 hil2).mono ?_)
          rintro e wq ⟨rfl, hb⟩
          exact ⟨rfl, arPost_ask (HTK.out.1.trans (by rw [gv_ask2 HX.out HY.out hy, HTW.out])) (hst.trans (Stp.of_below gp hb))⟩
        | some z =>
          obtain ⟨z1, z2⟩ := z
          (with_reducible refine (cas_told l.free x1 tw hp3 hy).mono ?_)
          rintro e w9 ⟨rfl, hp4, hs2⟩
          replace hst := hst.trans hs2
          replace ko := hs2.keep ko (by omega)
          replace kr := hs2.keep kr (by omega)
          clear hs2
          have HZZ := Lib.hid hy
          have hil3 : i + 2 < log.length := (List.getElem?_eq_some_iff.1 hy).1
          clear hy hp3
          refine hK.out _ _ (fun _ => ⟨⟨_, hp4.kp⟩, kr⟩) ?_
          clear hK K
          (try simp only [List.getElem_toArray, List.getElem_cons_succ, List.getElem_cons_zero, Act.put, List.setIfInBounds_toArray, List.set_cons_zero, List.set_cons_succ])
          refine wpAnyE_done (by kernel_rfl) ?_ _
          cases z2 with
          | false =>
            have hr1 : GvRel B gp go l A cap a log w w9 := ⟨i + 3, by omega, hp4, hst, ko, HTK.out.1.trans (gv_fail HX.out HY.out HZZ.out rfl)⟩
            have hm1 : log.length + 1 - madeOf gp w9 < log.length + 1 - madeOf gp wr := by rw [madeOf_eq hp4.kp, HTK.out.2]; omega
            have HR1 := Lib.hid (And.intro hr1 hm1)
            clear hr1 hm1 hp4 ko kr hst
            go_wp2_with fail
            exact HR1.out
          | true =>
            have HE := Lib.hid (HTK.out.1.trans (gv_out HX.out HY.out HZZ.out rfl))
            have c26 := hp4.kp.cell 26
            have lg := hp4.kp.lt
            simp at c26
            go_wp2_with (refine wpList_store_rowTo rfl 63 (.tmp 4) (.tmp 43) rfl rfl go (outC 0 true 0 (i + 2 : Nat)) rfl rfl 63 outZ ko (by kernel_rfl) rfl (by simp [Value.oneCell']) ?_)
            have kf := setRow_heap _ _ outZ (outC 0 true 0 (i + 2 : Nat)) 63 (0, 0) ko
            have hstf : Stp gp w (w9.setRow go (outC 0 true 0 (i + 2 : Nat))) := Stp.setRow' hst ko (by rw [HGO.out]; exact Nat.le_refl _)
            exact bodyPost_ret (v := .agg (outC 0 true 0 (i + 2 : Nat))) (results_cell_row (p := 4) (ty := 63) rfl _ _ go 63 (outC 0 true 0 (i + 2 : Nat)) (0, 0) _ rfl kf Try.underlying63 rfl (by kernel_rfl)) rfl (arPost_out (by rw [HE.out]; rfl) hstf)
end Go.Proofs.Ytgjdjgainjedhaa
