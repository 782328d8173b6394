/- The play's loop of TaskClaims. Printed by clloop_gen.py. -/
import Derived.Test.YtcjaomiihajjbaaClaimR
import Derived.Test.YtcjaomiihajjbaaPlayN
namespace Go.Proofs.Ytcjaomiihajjbaa
open Go.RowKit
set_option linter.unusedVariables false
attribute [local go_sem ↓] Go.wp_at_zero Go.wp_at_succ

def loopsOf : Code → List Code
  | .loop c => Code.loop c :: loopsOf c
  | .seq a b => loopsOf a ++ loopsOf b
  | .block _ c => loopsOf c
  | .scope c => loopsOf c
  | .cond _ a b => loopsOf a ++ loopsOf b
  | _ => []
noncomputable def clLoopC : Code := ((((Try.f4.body.map loopsOf).getD [])[3]?).getD .skip)
theorem whosC_length (turns : List Nat) : (whosC turns).length = turns.length + 60 := by simp [whosC]
theorem whosC_left {turns : List Nat} {i t : Nat} (h : turns[i]? = some t) : (whosC turns)[i]? = some (t % 3) := by
  have hi : i < turns.length := (List.getElem?_eq_some_iff.1 h).1
  unfold whosC
  rw [List.getElem?_append_left (by simp; omega), List.getElem?_map, h]
  rfl
theorem whosC_right {turns : List Nat} {i : Nat} (h : turns.length ≤ i) (h2 : i < turns.length + 60) : (whosC turns)[i]? = some ((i - turns.length) / 20) := by
  have e : List.replicate 20 0 ++ (List.replicate 20 1 ++ List.replicate 20 2) = (List.range 60).map (· / 20) := by decide
  unfold whosC
  rw [List.getElem?_append_right (by simp; omega), e, List.getElem?_map, List.length_map, List.getElem?_range (by omega)]
  rfl
theorem whosC_lt {turns : List Nat} {i w : Nat} (h : (whosC turns)[i]? = some w) : w < 3 := by
  have hm := List.mem_of_getElem? h
  unfold whosC at hm
  rcases List.mem_append.1 hm with h1 | h1
  · obtain ⟨t, _, rfl⟩ := List.mem_map.1 h1
    exact Nat.mod_lt _ (by omega)
  · simp [] at h1
    omega
set_option maxRecDepth 1000000 in
set_option maxHeartbeats 16000000 in
theorem cl_loop {K : Act → World → Prop} {Q : Exit → Act → World → Prop} (u0 u1 u3 u4 u5 u6 u7 u9 u10 u11 u13 u15 u16 u17 u18 u23 u24 u25 u26 u27 u28 u29 u30 u31 u32 u33 u34 u35 u36 u37 u38 u39 u40 u41 u42 u43 u44 u45 u46 u47 u48 u49 u50 u51 u52 u53 u54 u55 u56 u57 u58 u59 u60 u61 u62 u63 u64 u65 u66 u67 u68 u69 u70 u71 u72 u73 u74 u75 u76 u77 u78 u79 u80 u81 u82 u83 u84 u85 u86 u87 u88 u89 u90 u91 u92 u93 u94 u95 u96 u97 u98 u99 u100 u101 u102 u103 u104 u105 u106 u107 u108 u109 u110 u111 u112 u113 u114 u115 u116 u117 u118 u119 u120 u121 u122 u123 u124 u125 u126 u127 u128 u129 u130 u131 u132 u133 u134 u135 u136 u137 u138 u139 u140 u141 u142 u143 u144 u145 u146 u147 u148 u149 u150 u151 u152 u153 u154 u155 u156 u157 u158 u159 u160 u161 u162 u163 u164 u165 u166 u167 u168 u169 u170 u171 u172 u173 u174 u175 u176 u177 u178 u179 u180 u181 u182 u183 u184 u185 u186 u187 u188 u189 u190 u191 u192 u193 u194 u195 u196 u197 u198 u199 u200 u201 u202 u203 u204 u205 u206 u207 u208 u209 u210 u211 u212 u213 u214 u215 u216 u217 u218 u219 u220 u221 u222 u223 u224 u225 u226 u227 u228 u229 u230 u231 u232 u233 : Value) (w0 w : World) (T : Option Addr) (m d : Nat) (W : Option Addr) (c : Nat) (b8 bL b14 gs gw ga : Nat) (l : Ly) (want : List (List Opr)) (turns : List Nat) (s0 : PSt)
    (hQ : ∀ c (a : Act) (dst : Tmp) v w, Q (.panic c) (a.put (some dst) v) w → Q (.panic c) a w)
    (hb : Below w0.heap.size w0 w) (hm : turns.length = m) (hm2 : m ≤ 200) (hn : want.length = 3) (hW : SlWant w0 w0.heap.size W want) (hT : SlU8 w0 w0.heap.size T turns) (hok : TkOk l) (hnum : b8 < w0.heap.size ∧ w0.heap.size ≤ bL ∧ w0.heap.size ≤ b14 ∧ b14 < gs ∧ gs < gw ∧ gw < ga ∧ bL < b14 ∧ b8 < bL)
    (hw : ∀ ops ∈ want, ∀ op ∈ ops, ∃ a : Int, op = clOp a ∧ 1 ≤ a ∧ a ≤ 8) (hs0 : PInv 3 s0.m.length 0 s0) (hm3 : s0.m.length ≤ 1000) (hrep0 : CRep w b8 bL b14 gs gw ga (playC 6 W 3 c T m d) l s0) (hns : (runP l want s0 (whosC turns)).2 = false)
    (hK : ∀ (x6 x22 x23 x24 x25 x26 x27 x28 x29 x30 x31 x104 x105 x106 x107 x108 x109 x110 x111 x112 x113 x114 x115 x116 x117 x118 x119 x120 x121 x122 x123 x124 x125 x126 x127 x128 x129 x130 x131 x132 x133 x134 x135 x136 x137 x138 x139 x140 x141 x142 x143 x144 x145 x146 x147 x148 x149 x150 x151 x152 x153 x154 x155 x156 x157 x158 x159 x160 x161 x162 x163 x164 x165 x166 x167 x168 x169 x170 x171 x172 x173 x174 x175 x176 x177 x178 x179 x180 x181 x182 x183 x184 x185 x186 x187 x188 x189 x190 x191 x192 x193 x194 x195 x196 x197 x198 x199 x200 x201 x202 x203 x204 x205 x206 x207 : Value) (wx : World), Below w0.heap.size w0 wx → CRep wx b8 bL b14 gs gw ga (playC 6 W 3 c T m d) l (runP l want s0 (whosC turns)).1 → K ⟨#[u0, u1, (.slice T m d), u3, u4, u5, x6, u7, (ptr b8), u9, u10, u11, (ptr bL), u13, (ptr b14), u15, u16, u17, u18, (.slice (some ⟨gs, 0, none⟩) 3 3), (.slice (some ⟨gw, 0, none⟩) 9 9), (.slice (some ⟨ga, 0, none⟩) 9 9), x22, x23, x24, x25, x26, x27, x28, x29, x30, x31, u32, u33, u34, u35, u36, u37, u38, u39, u40, u41, u42, u43, u44, u45, u46, u47, u48, u49, u50, u51, u52, u53, u54, u55, u56, u57, u58, u59, u60, u61, u62, u63, u64, u65, u66, u67, u68, u69, u70, u71, u72, u73, u74, u75, u76, u77, u78, u79, u80, u81, u82, u83, u84, u85, u86, u87, u88, u89, u90, u91, u92, u93, u94, u95, u96, u97, u98, u99, u100, u101, u102, u103, x104, x105, x106, x107, x108, x109, x110, x111, x112, x113, x114, x115, x116, x117, x118, x119, x120, x121, x122, x123, x124, x125, x126, x127, x128, x129, x130, x131, x132, x133, x134, x135, x136, x137, x138, x139, x140, x141, x142, x143, x144, x145, x146, x147, x148, x149, x150, x151, x152, x153, x154, x155, x156, x157, x158, x159, x160, x161, x162, x163, x164, x165, x166, x167, x168, x169, x170, x171, x172, x173, x174, x175, x176, x177, x178, x179, x180, x181, x182, x183, x184, x185, x186, x187, x188, x189, x190, x191, x192, x193, x194, x195, x196, x197, x198, x199, x200, x201, x202, x203, x204, x205, x206, x207, u208, u209, u210, u211, u212, u213, u214, u215, u216, u217, u218, u219, u220, u221, u222, u223, u224, u225, u226, u227, u228, u229, u230, u231, u232, u233], []⟩ wx) :
    Code.wp Try.prog clLoopC (Exit.inBlock 6 (Exit.then K Q)) ⟨#[u0, u1, (.slice T m d), u3, u4, u5, u6, u7, (ptr b8), u9, u10, u11, (ptr bL), u13, (ptr b14), u15, u16, u17, u18, (.slice (some ⟨gs, 0, none⟩) 3 3), (.slice (some ⟨gw, 0, none⟩) 9 9), (.slice (some ⟨ga, 0, none⟩) 9 9), (.int .i64 0), u23, u24, u25, u26, u27, u28, u29, u30, u31, u32, u33, u34, u35, u36, u37, u38, u39, u40, u41, u42, u43, u44, u45, u46, u47, u48, u49, u50, u51, u52, u53, u54, u55, u56, u57, u58, u59, u60, u61, u62, u63, u64, u65, u66, u67, u68, u69, u70, u71, u72, u73, u74, u75, u76, u77, u78, u79, u80, u81, u82, u83, u84, u85, u86, u87, u88, u89, u90, u91, u92, u93, u94, u95, u96, u97, u98, u99, u100, u101, u102, u103, u104, u105, u106, u107, u108, u109, u110, u111, u112, u113, u114, u115, u116, u117, u118, u119, u120, u121, u122, u123, u124, u125, u126, u127, u128, u129, u130, u131, u132, u133, u134, u135, u136, u137, u138, u139, u140, u141, u142, u143, u144, u145, u146, u147, u148, u149, u150, u151, u152, u153, u154, u155, u156, u157, u158, u159, u160, u161, u162, u163, u164, u165, u166, u167, u168, u169, u170, u171, u172, u173, u174, u175, u176, u177, u178, u179, u180, u181, u182, u183, u184, u185, u186, u187, u188, u189, u190, u191, u192, u193, u194, u195, u196, u197, u198, u199, u200, u201, u202, u203, u204, u205, u206, u207, u208, u209, u210, u211, u212, u213, u214, u215, u216, u217, u218, u219, u220, u221, u222, u223, u224, u225, u226, u227, u228, u229, u230, u231, u232, u233], []⟩ w := by
  dsimp only at hK ⊢
  have HK := Lib.hid hK
  have HQ := Lib.hid hQ
  have HW := Lib.hid (And.intro hW hT)
  have HWO := Lib.hid hw
  have HN := Lib.hid (And.intro hn hm)
  have HOK := Lib.hid hok
  have HS0 := Lib.hid hs0
  have HNS := Lib.hid hns
  have HR0 := Lib.hid hrep0
  obtain ⟨z1, z2, z3, z4, z5, z6, z7, z8⟩ := hnum
  clear hK hQ hW hT hw hn hm hok hs0 hns hrep0
  conv => arg 2; whnf
  go_loopw [22] (fun v22 wr => CRel w0 b8 bL b14 gs gw ga (playC 6 W 3 c T m d) l want (whosC turns) s0 v22 wr) (fun v22 _ => (whosC turns).length - (intOf v22).toNat)
  case atStart => exact ⟨0, s0, Nat.zero_le _, rfl, hb, rfl, HR0.out⟩
  case round =>
    clear HR0 hb
    obtain ⟨k, s, hk, rfl, hbl, hrun, hrep⟩ := hrel
    have hlen := whosC_length turns
    rw [HN.out.2] at hlen
    have hwok : WantOk want := fun ops ho op hop => by
      obtain ⟨a, rfl, a1, a2⟩ := HWO.out ops ho op hop
      exact ⟨⟨by simp only [clOp]; omega, by simp only [clOp]; omega⟩, ⟨by simp [clOp], by simp [clOp]⟩⟩
    have hinv : PInv 3 s0.m.length (0 + (whosC turns).length) s := (PInv.run hwok _ HS0.out hrun).mono (by simp; omega)
    rw [hlen] at hk hinv
    have HWOK := Lib.hid hwok
    have HI := Lib.hid hinv
    have HRUN := Lib.hid hrun
    have HLEN := Lib.hid hlen
    clear hinv hrun hlen hwok
    by_cases hlt : k < m + 60
    · obtain ⟨who, hwho⟩ : ∃ who, (whosC turns)[k]? = some who := ⟨_, List.getElem?_eq_getElem (by rw [HLEN.out]; exact hlt)⟩
      have hwn : who < 3 := whosC_lt hwho
      have HWHO := Lib.hid hwho
      have HREP := Lib.hid hrep
      clear hwho hrep
      have i0 : decide ((k : Int) < m + 60) = true := by simp; omega
      obtain ⟨j, hj⟩ : ∃ j : Nat, k - m = j := ⟨_, rfl⟩
      have hmax : ∀ (w : World) (ts : Array TypeId) (t : TypeId), (Builtin.max_ ts t #[.int .i64 0, .int .i64 ((k : Int) - m)]).run Try.prog w = .ok (.int .i64 (j : Int)) w := fun w ts t => by
        rw [run_max_int2]
        congr 2
        split <;> omega
      have hjb : j ≤ 400 := by omega
      have HJ := Lib.hid hj
      clear hj
      go_upto_if 120 with fail
      clear i0 hmax
      go_cut [23] from 104 to 207 (fun v wx => v = .int .i64 who ∧ wx = wr)
      case first =>
        have w1 := HWHO.out
        by_cases hkm : k < m
        · obtain ⟨bT, oT, rfl, hbT, hcT⟩ := (HW.out.2.below hbl) (by rw [HN.out.2]; omega)
          obtain ⟨tt, htt⟩ : ∃ tt, turns[k]? = some tt := ⟨_, List.getElem?_eq_getElem (by rw [HN.out.2]; exact hkm)⟩
          obtain ⟨q3, q4⟩ := hcT k tt htt
          rw [whosC_left htt] at w1
          injection w1 with w1
          have HW1 := Lib.hid w1
          clear w1 hcT htt
          have i1 : (k : Int) < m := by omega
          go_wp2_with fail
          go_meet
          exact ⟨by rw [← HW1.out]; rfl, rfl⟩
        · have i1 : decide ((k : Int) < m) = false := by simp; omega
          have i2 : decide (k < m) = false := by simp; omega
          rw [whosC_right (by rw [HN.out.2]; omega) (by rw [HN.out.2]; exact hlt), HN.out.2] at w1
          injection w1 with w1
          have HW1 := Lib.hid w1
          clear w1
          go_wp2_with fail
          go_meet
          exact ⟨by rw [← HW1.out, HJ.out]; rfl, rfl⟩
      case rest =>
        obtain ⟨rfl, hwc⟩ := hcut
        subst wc
        clear HJ hjb
        obtain ⟨cs, hse⟩ := HREP.out.seats
        obtain ⟨x, hx⟩ : ∃ x, s.seats[who]? = some x := ⟨_, List.getElem?_eq_getElem (by rw [HI.out.ns]; exact hwn)⟩
        obtain ⟨G, cp, e1, e2, hres⟩ := hse.at_ who x hx
        have c1 := (hse.row.cell (who * 2)).trans e1
        have c2 := (hse.row.cell (who * 2 + 1)).trans e2
        have zS := hse.row.lt
        have hxm := List.mem_of_getElem? hx
        have hxa : x.1 ≤ 400 := by have := HI.out.al x hxm; omega
        have hxl : x.2.length ≤ 400 := by have := HI.out.ll x hxm; omega
        have HX := Lib.hid hx
        have HXR := Lib.hid (HI.out.lr x hxm)
        have HRES := Lib.hid hres
        obtain ⟨ops, hops⟩ : ∃ ops, want[who]? = some ops := ⟨_, List.getElem?_eq_getElem (by rw [HN.out.1]; exact hwn)⟩
        obtain ⟨bW, oW, rfl, hbW, hcW⟩ := (HW.out.1.below hbl) (by rw [HN.out.1]; omega)
        obtain ⟨AO, cO, cW, hsO⟩ := hcW who ops hops
        have HO := Lib.hid hops
        have HSO := Lib.hid hsO
        clear hx hxm hres hse e1 e2 hcW hops hsO
        obtain ⟨at_, log⟩ := x
        dsimp only at c1 c2 hxa hxl HXR HRES
        have hmin : ∀ (w : World) (ts : Array TypeId) (t : TypeId), (Builtin.min_ ts t #[.int .i64 (who : Int), .int .i64 2]).run Try.prog w = .ok (.int .i64 (who : Int)) w := fun w ts t => by
          rw [run_min_int2]
          congr 2
          split <;> omega
        have HMIN := Lib.hid hmin
        have g3 : (who : Int) < 3 := by omega
        have z0 := HREP.out.kP.lt
        have kP := HREP.out.kP.alloc (.cells #[.int .i64 (at_ : Nat), .slice G log.length cp] 63)
        have kX := Bk.made wr 63 #[.int .i64 (at_ : Nat), .slice G log.length cp]
        have cW2 : (wr.alloc (.cells #[.int .i64 (at_ : Nat), .slice G log.length cp] 63)).cell? ⟨bW, oW + who, none⟩ = some (.slice AO ops.length cO) := by
          rw [World.cell?_alloc_lt _ _ _ (by dsimp only; have := hbl.size; omega)]
          exact cW
        go_upto_region 32 with fail
        clear c1 c2 cW hmin
        have hbc : Below wr.heap.size wr (wr.alloc (.cells #[.int .i64 (at_ : Nat), .slice G log.length cp] 63)) := below_al (Below.refl _ _) _
        refine wp_region_held_drew (S := fun w' => Bk w' b8 27 (playC 6 (some ⟨bW, oW, none⟩) 3 c T m d) ∧ Bk w' wr.heap.size 63 #[.int .i64 (at_ : Nat), .slice G log.length cp] ∧ w'.cell? ⟨bW, oW + who, none⟩ = some (.slice AO ops.length cO)) (by kernel_rfl) ⟨kP.drew, kX.drew, cW2⟩ (fun hHeld => ?_)
        clear hHeld
        replace kP := kP.drew
        replace kX := kX.drew
        replace hbc := below_drew hbc
        replace cW2 : (wr.alloc (.cells #[.int .i64 (at_ : Nat), .slice G log.length cp] 63)).drew.cell? ⟨bW, oW + who, none⟩ = some (.slice AO ops.length cO) := cW2
        generalize (wr.alloc (.cells #[.int .i64 (at_ : Nat), .slice G log.length cp] 63)).drew = w5 at *
        obtain ⟨bX, hbX⟩ : ∃ b, wr.heap.size = b := ⟨_, rfl⟩
        rw [hbX] at kX zS z0
        rw [hbX]
        have HBX := Lib.hid hbX
        clear hbX
        have HBC := Lib.hid hbc
        clear hbc
        refine wpAnyH_take (i := 0) (oi := _) (v := .int .i64 (who : Nat)) rfl (by kernel_rfl) (by kernel_rfl) (by kernel_rfl) (fun _ _ _ h => HQ.out _ _ _ _ _ h) (Or.inl ⟨by rfl, ?_⟩) ⟨kP, kX, cW2⟩ ?_
        · intro w' hSw
          (try simp only [List.getElem_toArray, List.getElem_cons_zero])
          go_simp
        (try simp only [List.getElem_toArray, List.getElem_cons_zero, Act.put, List.setIfInBounds_toArray, List.set_cons_zero, List.set_cons_succ])
        refine wpAnyH_take (i := 1) (oi := _) (v := .bool false) rfl (by kernel_rfl) (by kernel_rfl) (by kernel_rfl) (fun _ _ _ h => HQ.out _ _ _ _ _ h) (Or.inl ⟨by rfl, ?_⟩) ⟨kP, kX, cW2⟩ ?_
        · intro w' hSw
          have g2 : decide ((2 : Int) < who) = false := by simp; omega
          (try simp only [List.getElem_toArray, List.getElem_cons_succ, List.getElem_cons_zero])
          go_simp
        (try simp only [List.getElem_toArray, List.getElem_cons_succ, List.getElem_cons_zero, Act.put, List.setIfInBounds_toArray, List.set_cons_zero, List.set_cons_succ])
        refine wpAnyH_take (i := 2) (oi := _) (v := .bool false) rfl (by kernel_rfl) (by kernel_rfl) (by kernel_rfl) (fun _ _ _ h => HQ.out _ _ _ _ _ h) (Or.inl ⟨by rfl, ?_⟩) ⟨kP, kX, cW2⟩ ?_
        · intro w' hSw
          (try simp only [List.getElem_toArray, List.getElem_cons_succ, List.getElem_cons_zero])
          go_simp
        (try simp only [List.getElem_toArray, List.getElem_cons_succ, List.getElem_cons_zero, Act.put, List.setIfInBounds_toArray, List.set_cons_zero, List.set_cons_succ])
        refine wpAnyH_take (i := 3) (oi := _) (v := .pointer (some ⟨bX, 0, none⟩)) rfl (by kernel_rfl) (by kernel_rfl) (by kernel_rfl) (fun _ _ _ h => HQ.out _ _ _ _ _ h) (Or.inl ⟨by rfl, ?_⟩) ⟨kP, kX, cW2⟩ ?_
        · intro w' hSw
          (try simp only [List.getElem_toArray, List.getElem_cons_succ, List.getElem_cons_zero])
          go_simp
        (try simp only [List.getElem_toArray, List.getElem_cons_succ, List.getElem_cons_zero, Act.put, List.setIfInBounds_toArray, List.set_cons_zero, List.set_cons_succ])
        refine wpAnyH_take (i := 4) (oi := _) (v := .int .i64 (at_ : Nat)) rfl (by kernel_rfl) (by kernel_rfl) (by kernel_rfl) (fun _ _ _ h => HQ.out _ _ _ _ _ h) (Or.inl ⟨by rfl, ?_⟩) ⟨kP, kX, cW2⟩ ?_
        · intro w' hSw
          have s1 := hSw.1.cell 1
          have s2 := hSw.2.1.cell 0
          have s3 := hSw.2.2
          simp at s1 s2 s3
          (try simp only [List.getElem_toArray, List.getElem_cons_succ, List.getElem_cons_zero])
          go_simp
        (try simp only [List.getElem_toArray, List.getElem_cons_succ, List.getElem_cons_zero, Act.put, List.setIfInBounds_toArray, List.set_cons_zero, List.set_cons_succ])
        refine wpAnyH_take (i := 5) (oi := _) (v := .pointer (some ⟨b8, 1, none⟩)) rfl (by kernel_rfl) (by kernel_rfl) (by kernel_rfl) (fun _ _ _ h => HQ.out _ _ _ _ _ h) (Or.inl ⟨by rfl, ?_⟩) ⟨kP, kX, cW2⟩ ?_
        · intro w' hSw
          (try simp only [List.getElem_toArray, List.getElem_cons_succ, List.getElem_cons_zero])
          go_simp
        (try simp only [List.getElem_toArray, List.getElem_cons_succ, List.getElem_cons_zero, Act.put, List.setIfInBounds_toArray, List.set_cons_zero, List.set_cons_succ])
        refine wpAnyH_take (i := 6) (oi := _) (v := .slice (some ⟨bW, oW, none⟩) 3 c) rfl (by kernel_rfl) (by kernel_rfl) (by kernel_rfl) (fun _ _ _ h => HQ.out _ _ _ _ _ h) (Or.inl ⟨by rfl, ?_⟩) ⟨kP, kX, cW2⟩ ?_
        · intro w' hSw
          have s1 := hSw.1.cell 1
          have s2 := hSw.2.1.cell 0
          have s3 := hSw.2.2
          simp at s1 s2 s3
          (try simp only [List.getElem_toArray, List.getElem_cons_succ, List.getElem_cons_zero])
          go_simp
        (try simp only [List.getElem_toArray, List.getElem_cons_succ, List.getElem_cons_zero, Act.put, List.setIfInBounds_toArray, List.set_cons_zero, List.set_cons_succ])
        refine wpAnyH_take (i := 7) (oi := _) (v := .int .i64 (who : Nat)) rfl (by kernel_rfl) (by kernel_rfl) (by kernel_rfl) (fun _ _ _ h => HQ.out _ _ _ _ _ h) (Or.inl ⟨by rfl, ?_⟩) ⟨kP, kX, cW2⟩ ?_
        · intro w' hSw
          (try simp only [List.getElem_toArray, List.getElem_cons_succ, List.getElem_cons_zero])
          go_simp
        (try simp only [List.getElem_toArray, List.getElem_cons_succ, List.getElem_cons_zero, Act.put, List.setIfInBounds_toArray, List.set_cons_zero, List.set_cons_succ])
        refine wpAnyH_take (i := 8) (oi := _) (v := .int .i64 (who : Nat)) rfl (by kernel_rfl) (by kernel_rfl) (by kernel_rfl) (fun _ _ _ h => HQ.out _ _ _ _ _ h) (Or.inl ⟨by rfl, ?_⟩) ⟨kP, kX, cW2⟩ ?_
        · intro w' hSw
          have m1 := HMIN.out
          (try simp only [List.getElem_toArray, List.getElem_cons_succ, List.getElem_cons_zero])
          go_simp
        (try simp only [List.getElem_toArray, List.getElem_cons_succ, List.getElem_cons_zero, Act.put, List.setIfInBounds_toArray, List.set_cons_zero, List.set_cons_succ])
        refine wpAnyH_take (i := 9) (oi := _) (v := .pointer (some ⟨bW, oW + who, none⟩)) rfl (by kernel_rfl) (by kernel_rfl) (by kernel_rfl) (fun _ _ _ h => HQ.out _ _ _ _ _ h) (Or.inl ⟨by rfl, ?_⟩) ⟨kP, kX, cW2⟩ ?_
        · intro w' hSw
          (try simp only [List.getElem_toArray, List.getElem_cons_succ, List.getElem_cons_zero])
          go_simp
        (try simp only [List.getElem_toArray, List.getElem_cons_succ, List.getElem_cons_zero, Act.put, List.setIfInBounds_toArray, List.set_cons_zero, List.set_cons_succ])
        refine wpAnyH_take (i := 10) (oi := _) (v := .slice AO ops.length cO) rfl (by kernel_rfl) (by kernel_rfl) (by kernel_rfl) (fun _ _ _ h => HQ.out _ _ _ _ _ h) (Or.inl ⟨by rfl, ?_⟩) ⟨kP, kX, cW2⟩ ?_
        · intro w' hSw
          have s1 := hSw.1.cell 1
          have s2 := hSw.2.1.cell 0
          have s3 := hSw.2.2
          simp at s1 s2 s3
          (try simp only [List.getElem_toArray, List.getElem_cons_succ, List.getElem_cons_zero])
          go_simp
        (try simp only [List.getElem_toArray, List.getElem_cons_succ, List.getElem_cons_zero, Act.put, List.setIfInBounds_toArray, List.set_cons_zero, List.set_cons_succ])
        refine wpAnyH_take (i := 11) (oi := _) (v := .int .i64 (ops.length : Nat)) rfl (by kernel_rfl) (by kernel_rfl) (by kernel_rfl) (fun _ _ _ h => HQ.out _ _ _ _ _ h) (Or.inl ⟨by rfl, ?_⟩) ⟨kP, kX, cW2⟩ ?_
        · intro w' hSw
          (try simp only [List.getElem_toArray, List.getElem_cons_succ, List.getElem_cons_zero])
          go_simp
        (try simp only [List.getElem_toArray, List.getElem_cons_succ, List.getElem_cons_zero, Act.put, List.setIfInBounds_toArray, List.set_cons_zero, List.set_cons_succ])
        refine wpAnyH_take (i := 12) (oi := _) (v := .bool (decide ((ops.length : Int) ≤ (at_ : Nat)))) rfl (by kernel_rfl) (by kernel_rfl) (by kernel_rfl) (fun _ _ _ h => HQ.out _ _ _ _ _ h) (Or.inl ⟨by rfl, ?_⟩) ⟨kP, kX, cW2⟩ ?_
        · intro w' hSw
          (try simp only [List.getElem_toArray, List.getElem_cons_succ, List.getElem_cons_zero])
          go_simp
        (try simp only [List.getElem_toArray, List.getElem_cons_succ, List.getElem_cons_zero, Act.put, List.setIfInBounds_toArray, List.set_cons_zero, List.set_cons_succ])
        refine wpAnyH_take (i := 13) (oi := _) (v := .bool (decide ((ops.length : Int) ≤ (at_ : Nat)))) rfl (by kernel_rfl) (by kernel_rfl) (by kernel_rfl) (fun _ _ _ h => HQ.out _ _ _ _ _ h) (Or.inl ⟨by rfl, ?_⟩) ⟨kP, kX, cW2⟩ ?_
        · intro w' hSw
          (try simp only [List.getElem_toArray, List.getElem_cons_succ, List.getElem_cons_zero])
          go_simp
        (try simp only [List.getElem_toArray, List.getElem_cons_succ, List.getElem_cons_zero, Act.put, List.setIfInBounds_toArray, List.set_cons_zero, List.set_cons_succ])
        refine wpAnyH_done (by kernel_rfl) ?_ _
        by_cases hat : ops.length ≤ at_
        · have g4 : decide ((ops.length : Int) ≤ (at_ : Nat)) = true := by simp; omega
          have g5 : decide (ops.length ≤ at_) = true := by simp; omega
          have hturn : turnP l want who s = some s := by
            unfold turnP
            rw [HX.out]
            dsimp only
            rw [List.getD_eq_getElem?_getD, HO.out, Option.getD_some, List.getElem?_eq_none hat]
          have HT := Lib.hid (runP_snoc HRUN.out hturn)
          clear hturn cW2 kP
          go_wp2_with fail
          go_roundw
          case rel =>
            refine ⟨k + 1, s, by rw [HLEN.out]; omega, by go_num, below_tr hbl HBC.out, ?_, HREP.out.keep HBC.out⟩
            rw [List.take_add_one, HWHO.out]
            exact HT.out
          case measure => rw [HLEN.out]; simp [intOf]; omega
        · have g4 : decide ((ops.length : Int) ≤ (at_ : Nat)) = false := by simp; omega
          have g5 : decide (ops.length ≤ at_) = false := by simp; omega
          obtain ⟨op, hop⟩ : ∃ op, ops[at_]? = some op := ⟨_, List.getElem?_eq_getElem (by omega)⟩
          obtain ⟨bO, oO, rfl, hbO, hcO⟩ := HSO.out (by omega)
          obtain ⟨p1, p2, p3, p4⟩ := hcO at_ op hop
          have HOP := Lib.hid hop
          obtain ⟨a, ha, a1, a2⟩ := HWO.out ops (List.mem_of_getElem? HO.out) op (List.mem_of_getElem? hop)
          subst ha
          clear hcO hop
          dsimp only [clOp] at p1 p2 p3 p4
          have g6 : (at_ : Int) < ops.length := by omega
          go_upto_region 33 with fail
          clear g4 g5
          have hO5 : bO < wr.heap.size := by have := hbl.size; omega
          have hS : Bk w5.drew b8 27 (playC 6 (some ⟨bW, oW, none⟩) 3 c T m d) ∧ Bk w5.drew bX 63 #[.int .i64 (at_ : Nat), .slice G log.length cp] ∧ w5.drew.cell? ⟨bW, oW + who, none⟩ = some (.slice (some ⟨bO, oO, none⟩) ops.length cO) ∧ w5.drew.cell? ⟨bO, oO + at_ * 4, none⟩ = some (.int .i64 12) ∧ w5.drew.cell? ⟨bO, oO + at_ * 4 + 1, none⟩ = some (.int .i64 0) ∧ w5.drew.cell? ⟨bO, oO + at_ * 4 + 2, none⟩ = some (.int .i64 a) ∧ w5.drew.cell? ⟨bO, oO + at_ * 4 + 3, none⟩ = some (.int .i64 0) :=
            ⟨kP, kX, cW2, (HBC.out.cell (p := ⟨bO, _, none⟩) hO5).trans p1, (HBC.out.cell (p := ⟨bO, _, none⟩) hO5).trans p2, (HBC.out.cell (p := ⟨bO, _, none⟩) hO5).trans p3, (HBC.out.cell (p := ⟨bO, _, none⟩) hO5).trans p4⟩
          have hbc := below_drew HBC.out
          refine wp_region_held_drew (S := fun w' => Bk w' b8 27 (playC 6 (some ⟨bW, oW, none⟩) 3 c T m d) ∧ Bk w' bX 63 #[.int .i64 (at_ : Nat), .slice G log.length cp] ∧ w'.cell? ⟨bW, oW + who, none⟩ = some (.slice (some ⟨bO, oO, none⟩) ops.length cO) ∧ w'.cell? ⟨bO, oO + at_ * 4, none⟩ = some (.int .i64 12) ∧ w'.cell? ⟨bO, oO + at_ * 4 + 1, none⟩ = some (.int .i64 0) ∧ w'.cell? ⟨bO, oO + at_ * 4 + 2, none⟩ = some (.int .i64 a) ∧ w'.cell? ⟨bO, oO + at_ * 4 + 3, none⟩ = some (.int .i64 0)) (by kernel_rfl) hS (fun hHeld => ?_)
          clear hHeld p1 p2 p3 p4 kP cW2 HBC
          replace kX := kX.drew
          generalize w5.drew = w6 at *
          have HBC := Lib.hid hbc
          clear hbc
          refine wpAnyH_take (i := 0) (oi := _) (v := .pointer (some ⟨b8, 1, none⟩)) rfl (by kernel_rfl) (by kernel_rfl) (by kernel_rfl) (fun _ _ _ h => HQ.out _ _ _ _ _ h) (Or.inl ⟨by rfl, ?_⟩) hS ?_
          · intro w' hSw
            (try simp only [List.getElem_toArray, List.getElem_cons_zero])
            go_simp
          (try simp only [List.getElem_toArray, List.getElem_cons_zero, Act.put, List.setIfInBounds_toArray, List.set_cons_zero, List.set_cons_succ])
          refine wpAnyH_take (i := 1) (oi := _) (v := .slice (some ⟨bW, oW, none⟩) 3 c) rfl (by kernel_rfl) (by kernel_rfl) (by kernel_rfl) (fun _ _ _ h => HQ.out _ _ _ _ _ h) (Or.inl ⟨by rfl, ?_⟩) hS ?_
          · intro w' hSw
            have s1 := hSw.1.cell 1
            have s2 := hSw.2.1.cell 0
            have s3 := hSw.2.2.1
            have s4 := hSw.2.2.2.1
            have s5 := hSw.2.2.2.2.1
            have s6 := hSw.2.2.2.2.2.1
            have s7 := hSw.2.2.2.2.2.2
            simp at s1 s2 s3 s4 s5 s6 s7
            (try simp only [List.getElem_toArray, List.getElem_cons_succ, List.getElem_cons_zero])
            go_simp
          (try simp only [List.getElem_toArray, List.getElem_cons_succ, List.getElem_cons_zero, Act.put, List.setIfInBounds_toArray, List.set_cons_zero, List.set_cons_succ])
          refine wpAnyH_take (i := 2) (oi := _) (v := .int .i64 (who : Nat)) rfl (by kernel_rfl) (by kernel_rfl) (by kernel_rfl) (fun _ _ _ h => HQ.out _ _ _ _ _ h) (Or.inl ⟨by rfl, ?_⟩) hS ?_
          · intro w' hSw
            (try simp only [List.getElem_toArray, List.getElem_cons_succ, List.getElem_cons_zero])
            go_simp
          (try simp only [List.getElem_toArray, List.getElem_cons_succ, List.getElem_cons_zero, Act.put, List.setIfInBounds_toArray, List.set_cons_zero, List.set_cons_succ])
          refine wpAnyH_take (i := 3) (oi := _) (v := .pointer (some ⟨bW, oW + who, none⟩)) rfl (by kernel_rfl) (by kernel_rfl) (by kernel_rfl) (fun _ _ _ h => HQ.out _ _ _ _ _ h) (Or.inl ⟨by rfl, ?_⟩) hS ?_
          · intro w' hSw
            (try simp only [List.getElem_toArray, List.getElem_cons_succ, List.getElem_cons_zero])
            go_simp
          (try simp only [List.getElem_toArray, List.getElem_cons_succ, List.getElem_cons_zero, Act.put, List.setIfInBounds_toArray, List.set_cons_zero, List.set_cons_succ])
          refine wpAnyH_take (i := 4) (oi := _) (v := .slice (some ⟨bO, oO, none⟩) ops.length cO) rfl (by kernel_rfl) (by kernel_rfl) (by kernel_rfl) (fun _ _ _ h => HQ.out _ _ _ _ _ h) (Or.inl ⟨by rfl, ?_⟩) hS ?_
          · intro w' hSw
            have s1 := hSw.1.cell 1
            have s2 := hSw.2.1.cell 0
            have s3 := hSw.2.2.1
            have s4 := hSw.2.2.2.1
            have s5 := hSw.2.2.2.2.1
            have s6 := hSw.2.2.2.2.2.1
            have s7 := hSw.2.2.2.2.2.2
            simp at s1 s2 s3 s4 s5 s6 s7
            (try simp only [List.getElem_toArray, List.getElem_cons_succ, List.getElem_cons_zero])
            go_simp
          (try simp only [List.getElem_toArray, List.getElem_cons_succ, List.getElem_cons_zero, Act.put, List.setIfInBounds_toArray, List.set_cons_zero, List.set_cons_succ])
          refine wpAnyH_take (i := 5) (oi := _) (v := .pointer (some ⟨bX, 0, none⟩)) rfl (by kernel_rfl) (by kernel_rfl) (by kernel_rfl) (fun _ _ _ h => HQ.out _ _ _ _ _ h) (Or.inl ⟨by rfl, ?_⟩) hS ?_
          · intro w' hSw
            (try simp only [List.getElem_toArray, List.getElem_cons_succ, List.getElem_cons_zero])
            go_simp
          (try simp only [List.getElem_toArray, List.getElem_cons_succ, List.getElem_cons_zero, Act.put, List.setIfInBounds_toArray, List.set_cons_zero, List.set_cons_succ])
          refine wpAnyH_take (i := 6) (oi := _) (v := .int .i64 (at_ : Nat)) rfl (by kernel_rfl) (by kernel_rfl) (by kernel_rfl) (fun _ _ _ h => HQ.out _ _ _ _ _ h) (Or.inl ⟨by rfl, ?_⟩) hS ?_
          · intro w' hSw
            have s1 := hSw.1.cell 1
            have s2 := hSw.2.1.cell 0
            have s3 := hSw.2.2.1
            have s4 := hSw.2.2.2.1
            have s5 := hSw.2.2.2.2.1
            have s6 := hSw.2.2.2.2.2.1
            have s7 := hSw.2.2.2.2.2.2
            simp at s1 s2 s3 s4 s5 s6 s7
            (try simp only [List.getElem_toArray, List.getElem_cons_succ, List.getElem_cons_zero])
            go_simp
          (try simp only [List.getElem_toArray, List.getElem_cons_succ, List.getElem_cons_zero, Act.put, List.setIfInBounds_toArray, List.set_cons_zero, List.set_cons_succ])
          refine wpAnyH_take (i := 7) (oi := _) (v := .pointer (some ⟨bO, oO + at_ * 4, none⟩)) rfl (by kernel_rfl) (by kernel_rfl) (by kernel_rfl) (fun _ _ _ h => HQ.out _ _ _ _ _ h) (Or.inl ⟨by rfl, ?_⟩) hS ?_
          · intro w' hSw
            (try simp only [List.getElem_toArray, List.getElem_cons_succ, List.getElem_cons_zero])
            go_simp
          (try simp only [List.getElem_toArray, List.getElem_cons_succ, List.getElem_cons_zero, Act.put, List.setIfInBounds_toArray, List.set_cons_zero, List.set_cons_succ])
          refine wpAnyH_take (i := 8) (oi := _) (v := .agg #[.int .i64 12, .int .i64 0, .int .i64 a, .int .i64 0]) rfl (by kernel_rfl) (by kernel_rfl) (by kernel_rfl) (fun _ _ _ h => HQ.out _ _ _ _ _ h) (Or.inl ⟨by rfl, ?_⟩) hS ?_
          · intro w' hSw
            have s1 := hSw.1.cell 1
            have s2 := hSw.2.1.cell 0
            have s3 := hSw.2.2.1
            have s4 := hSw.2.2.2.1
            have s5 := hSw.2.2.2.2.1
            have s6 := hSw.2.2.2.2.2.1
            have s7 := hSw.2.2.2.2.2.2
            simp at s1 s2 s3 s4 s5 s6 s7
            (try simp only [List.getElem_toArray, List.getElem_cons_succ, List.getElem_cons_zero])
            go_simp
          (try simp only [List.getElem_toArray, List.getElem_cons_succ, List.getElem_cons_zero, Act.put, List.setIfInBounds_toArray, List.set_cons_zero, List.set_cons_succ])
          refine wpAnyH_ready (rs := [9]) (by kernel_rfl) (by simp) ?_
          refine AllReadyH.cons (o := _) rfl (fun K hK => ?_) AllReadyH.nil
          (try simp only [List.getElem_toArray, List.getElem_cons_succ, List.getElem_cons_zero])
          go_simp
          have hS2 : Bk (w6.alloc (.cells #[.int .i64 0, .int .i64 0, .int .i64 0, .int .i64 0] 30)) b8 27 (playC 6 (some ⟨bW, oW, none⟩) 3 c T m d) ∧ Bk (w6.alloc (.cells #[.int .i64 0, .int .i64 0, .int .i64 0, .int .i64 0] 30)) bX 63 #[.int .i64 (at_ : Nat), .slice G log.length cp] ∧ (w6.alloc (.cells #[.int .i64 0, .int .i64 0, .int .i64 0, .int .i64 0] 30)).cell? ⟨bW, oW + who, none⟩ = some (.slice (some ⟨bO, oO, none⟩) ops.length cO) ∧ (w6.alloc (.cells #[.int .i64 0, .int .i64 0, .int .i64 0, .int .i64 0] 30)).cell? ⟨bO, oO + at_ * 4, none⟩ = some (.int .i64 12) ∧ (w6.alloc (.cells #[.int .i64 0, .int .i64 0, .int .i64 0, .int .i64 0] 30)).cell? ⟨bO, oO + at_ * 4 + 1, none⟩ = some (.int .i64 0) ∧ (w6.alloc (.cells #[.int .i64 0, .int .i64 0, .int .i64 0, .int .i64 0] 30)).cell? ⟨bO, oO + at_ * 4 + 2, none⟩ = some (.int .i64 a) ∧ (w6.alloc (.cells #[.int .i64 0, .int .i64 0, .int .i64 0, .int .i64 0] 30)).cell? ⟨bO, oO + at_ * 4 + 3, none⟩ = some (.int .i64 0) :=
            ⟨hS.1.alloc _, hS.2.1.alloc _, (World.cell?_alloc_lt _ _ _ (cell_lt hS.2.2.1)).trans hS.2.2.1, (World.cell?_alloc_lt _ _ _ (cell_lt hS.2.2.2.1)).trans hS.2.2.2.1, (World.cell?_alloc_lt _ _ _ (cell_lt hS.2.2.2.2.1)).trans hS.2.2.2.2.1, (World.cell?_alloc_lt _ _ _ (cell_lt hS.2.2.2.2.2.1)).trans hS.2.2.2.2.2.1, (World.cell?_alloc_lt _ _ _ (cell_lt hS.2.2.2.2.2.2)).trans hS.2.2.2.2.2.2⟩
          have kS := Bk.made w6 30 #[.int .i64 0, .int .i64 0, .int .i64 0, .int .i64 0]
          have hbc := below_al HBC.out (.cells #[.int .i64 0, .int .i64 0, .int .i64 0, .int .i64 0] 30)
          have zX := kX.lt
          replace kX := kX.alloc (.cells #[.int .i64 0, .int .i64 0, .int .i64 0, .int .i64 0] 30)
          refine hK.out _ _ hS2 (fun hS' => ?_)
          clear hS' hK K
          (try simp only [List.getElem_toArray, List.getElem_cons_succ, List.getElem_cons_zero, Act.put, List.setIfInBounds_toArray, List.set_cons_zero, List.set_cons_succ])
          clear hS
          generalize (w6.alloc (.cells #[.int .i64 0, .int .i64 0, .int .i64 0, .int .i64 0] 30)) = w7 at *
          generalize w6.heap.size = bS at *
          clear HBC
          refine wpAnyH_ready (rs := [10]) (by kernel_rfl) (by simp) ?_
          refine AllReadyH.cons (o := _) rfl (fun K hK => ?_) AllReadyH.nil
          rw [if_pos (by rfl)]
          refine wp_store_row 30 (.tmp 25) (.tmp 154) rfl bS #[.int .i64 12, .int .i64 0, .int .i64 a, .int .i64 0] rfl rfl 30 #[.int .i64 0, .int .i64 0, .int .i64 0, .int .i64 0] kS (by kernel_rfl) rfl (by simp [Value.oneCell']) ?_
          have hS3 : Bk (w7.setRow bS #[.int .i64 12, .int .i64 0, .int .i64 a, .int .i64 0]) b8 27 (playC 6 (some ⟨bW, oW, none⟩) 3 c T m d) ∧ Bk (w7.setRow bS #[.int .i64 12, .int .i64 0, .int .i64 a, .int .i64 0]) bX 63 #[.int .i64 (at_ : Nat), .slice G log.length cp] ∧ (w7.setRow bS #[.int .i64 12, .int .i64 0, .int .i64 a, .int .i64 0]).cell? ⟨bW, oW + who, none⟩ = some (.slice (some ⟨bO, oO, none⟩) ops.length cO) ∧ (w7.setRow bS #[.int .i64 12, .int .i64 0, .int .i64 a, .int .i64 0]).cell? ⟨bO, oO + at_ * 4, none⟩ = some (.int .i64 12) ∧ (w7.setRow bS #[.int .i64 12, .int .i64 0, .int .i64 a, .int .i64 0]).cell? ⟨bO, oO + at_ * 4 + 1, none⟩ = some (.int .i64 0) ∧ (w7.setRow bS #[.int .i64 12, .int .i64 0, .int .i64 a, .int .i64 0]).cell? ⟨bO, oO + at_ * 4 + 2, none⟩ = some (.int .i64 a) ∧ (w7.setRow bS #[.int .i64 12, .int .i64 0, .int .i64 a, .int .i64 0]).cell? ⟨bO, oO + at_ * 4 + 3, none⟩ = some (.int .i64 0) :=
            ⟨(setRow_other _ _ _ _ (by omega)).trans hS2.1, (setRow_other _ _ _ _ (by omega)).trans hS2.2.1, (setRow_cell (by omega)).trans hS2.2.2.1, (setRow_cell (by omega)).trans hS2.2.2.2.1, (setRow_cell (by omega)).trans hS2.2.2.2.2.1, (setRow_cell (by omega)).trans hS2.2.2.2.2.2.1, (setRow_cell (by omega)).trans hS2.2.2.2.2.2.2⟩
          replace kS : Bk (w7.setRow bS #[.int .i64 12, .int .i64 0, .int .i64 a, .int .i64 0]) bS 30 #[.int .i64 12, .int .i64 0, .int .i64 a, .int .i64 0] := setRow_heap _ _ #[.int .i64 0, .int .i64 0, .int .i64 0, .int .i64 0] #[.int .i64 12, .int .i64 0, .int .i64 a, .int .i64 0] 30 (0, 0) kS
          replace kX : Bk (w7.setRow bS #[.int .i64 12, .int .i64 0, .int .i64 a, .int .i64 0]) bX 63 #[.int .i64 (at_ : Nat), .slice G log.length cp] := hS3.2.1
          replace hbc := below_setRow hbc (g := bS) (by rw [HBX.out]; omega) #[.int .i64 12, .int .i64 0, .int .i64 a, .int .i64 0]
          refine hK.out _ _ hS3 (fun hS' => ?_)
          clear hS' hK K
          (try simp only [List.getElem_toArray, List.getElem_cons_succ, List.getElem_cons_zero, Act.put])
          clear hS2 hS3
          generalize (w7.setRow bS #[.int .i64 12, .int .i64 0, .int .i64 a, .int .i64 0]) = w8 at *
          have HBC := Lib.hid hbc
          clear hbc
          refine wpAnyH_done (by kernel_rfl) ?_ _
          have kL := HREP.out.kL.keep HBC.out
          have x0 := kX.cell 1
          have y0 := kS.cell 0
          have y1 := kS.cell 1
          have y2 := kS.cell 2
          have y3 := kS.cell 3
          have zz := kS.lt
          simp at x0 y0 y1 y2 y3
          go_wp2_with (refine wpList_load_row rfl 34 (.tmp 12) rfl bL rfl 34 (lyC l) (0, 0) _ kL Try.underlying34 rfl (by kernel_rfl) ?_)
          clear y0 y1 y2 y3 x0
          have hsl : SlRes w8 w8.heap.size G log := slRes_of_own (base := 0) (cap := cp) (own_keepb HRES.out HBC.out)
          have hlr : ∀ x ∈ log, -9223372036854775808 ≤ x.1 ∧ x.1 ≤ 9223372036854775807 := HXR.out
          (with_reducible refine (next_any l who (⟨12, 0, a, 0⟩ : Opr) G cp log _ HOK.out.fit (by dsimp only; omega) hsl (by omega) hlr).mono ?_)
          clear hsl hlr
          intro e w9 hpost
          replace hpost := ansPost_of hpost
          obtain ⟨ans, hans⟩ : ∃ a', nextA l (⟨12, 0, a, 0⟩ : Opr) log = a' := ⟨_, rfl⟩
          rw [hans] at hpost
          have HANS := Lib.hid hans
          clear hans
          have hne : ((⟨12, 0, a, 0⟩ : Opr)) = clOp a := rfl
          obtain ⟨an, han⟩ : ∃ n : Nat, a = n := ⟨a.toNat, by omega⟩
          subst han
          cases ans with
          | out val is err point =>
            obtain ⟨rfl, hb⟩ := hpost
            replace kS := kS.keep hb
            replace kX := kX.keep hb
            have hbc := below_tr HBC.out hb
            clear hb HBC kL zz
            go_upto_region 36 with fail
            have zS9 := kS.lt
            have kO := Bk.new (w9.alloc (.cells accZ 44)) (g := w9.heap.size + 1) (by simp) 50 (outC val is err point)
            replace kS := (kS.alloc (.cells accZ 44)).alloc (.cells (outC val is err point) 50)
            replace kX := (kX.alloc (.cells accZ 44)).alloc (.cells (outC val is err point) 50)
            replace hbc := below_al (below_al hbc (.cells accZ 44)) (.cells (outC val is err point) 50)
            generalize (w9.alloc (.cells accZ 44)).alloc (.cells (outC val is err point) 50) = w10 at *
            generalize w9.heap.size = bA at *
            have hrep := HREP.out.keep hbc
            have hbl2 := below_tr hbl hbc
            have hturn : turnP l want who s = some ⟨s.m, s.seats.set who (at_ + 1, []), s.out ++ [doneStep who at_ (clOp (an : Int)) val is err point]⟩ := by
              unfold turnP
              rw [HX.out]
              dsimp only
              rw [List.getD_eq_getElem?_getD, HO.out, Option.getD_some, HOP.out]
              dsimp only
              rw [show clOp (an : Int) = ⟨12, 0, (an : Int), 0⟩ from rfl, HANS.out]
            have HT := Lib.hid (runP_snoc HRUN.out hturn)
            clear hturn hbc
            obtain ⟨cw, kw, hw9, hcw⟩ := hrep.won
            obtain ⟨ca, ka, ha9, hca⟩ := hrep.asked
            have han9 : an < 9 := by omega
            obtain ⟨N, hN⟩ : ∃ N, bsum s.out (dW (an : Int)) = N := ⟨_, rfl⟩
            have hNb : N ≤ 400 := by
              rw [← hN]
              have := HI.out.ol
              exact Nat.le_trans (bsum_le_length _ _ fun x _ => toNat_le _) (by omega)
            have qw := (kw.cell an).trans (hcw an han9)
            rw [hN] at qw
            have fw := kw.free an
            have lw := kw.lt
            have qa := (ka.cell an).trans (hca an han9)
            have fa := ka.free an
            have la := ka.lt
            have y2 := kS.cell 2
            have v1 := kO.cell 1
            have x0 := kX.cell 0
            have lS := kS.lt
            have lO := kO.lt
            simp at y2 v1 x0
            have hst : (doneStep who at_ (clOp (an : Int)) val is err point).op.a = (an : Int) := rfl
            have hdW : ∀ t : Nat, dW (t : Int) (doneStep who at_ (clOp (an : Int)) val is err point) = (is && decide ((an : Int) = t)).toNat := fun t => rfl
            have zga : ga < bX := by
              obtain ⟨_, ka0, _⟩ := HREP.out.asked
              rw [← HBX.out]
              exact ka0.lt
            have hwl : who < s.seats.length := by rw [HI.out.ns]; exact hwn
            have hnn : b8 ≠ gw ∧ bL ≠ gw ∧ b14 ≠ gw ∧ gs ≠ gw ∧ ga ≠ gw := by omega
            have hanI : (an : Int) < 9 := by omega
            cases is with
            | false =>
              have hnew := (hrep.told (st := doneStep who at_ (clOp (an : Int)) val false err point) han9 hst rfl hnn w10 cw (Stp.refl gw w10) kw (fun t ht => by rw [hdW t]; simpa using hcw t ht) hw9)
              obtain ⟨cs', hse⟩ := hnew.seats
              obtain ⟨G', cp', e1, e2, _⟩ := hse.at_ who _ HX.out
              have kX2 := kX.other (p := ⟨ga, an, none⟩) (by dsimp only; omega) (.bool true)
              have hbl3 := below_set hbl2 (p := ⟨ga, an, none⟩) (by dsimp only; omega) (.bool true)
              have HNEW := Lib.hid hnew
              have HSE := Lib.hid (And.intro hse (And.intro e1 e2))
              clear hrep hse hcw hca hnew e1 e2 ka kw
              go_upto_region 39 with fail
              have hnew := HNEW.out
              have hse := HSE.out.1
              have c1 := (hse.row.cell (who * 2)).trans HSE.out.2.1
              have c2 := (hse.row.cell (who * 2 + 1)).trans HSE.out.2.2
              have f1 := hse.row.free (who * 2)
              have f2 := hse.row.free (who * 2 + 1)
              have l1 := hse.row.lt
              clear HNEW HSE x0 y2 v1 qa fa la qw fw lw
              generalize w10.setCell ⟨ga, an, none⟩ (.bool true) = w12 at *
              have x0 := kX2.cell 0
              have lX := kX2.lt
              simp at x0
              have hrep2 := hnew.seat (who := who) (a := at_ + 1) (log := []) (G := none) (cap := 0) hwl (World.ownsRow_nil _ _ _ _)
              simp only [List.length_nil] at hrep2
              have hbl4 := below_set (below_set hbl3 (p := ⟨gs, who * 2, none⟩) (by dsimp only; omega) (.int .i64 ((at_ + 1 : Nat) : Int))) (p := ⟨gs, who * 2 + 1, none⟩) (by dsimp only; omega) (.slice none 0 0)
              have HR2 := Lib.hid hrep2
              have HB4 := Lib.hid hbl4
              clear hnew hrep2 hbl4 hse
              go_wp2_with fail
              refine ⟨⟨k + 1, _, by rw [HLEN.out]; omega, by go_num, HB4.out, ?_, HR2.out⟩, by rw [HLEN.out]; simp [intOf]; omega⟩
              rw [List.take_add_one, HWHO.out]
              exact HT.out
            | true =>
              have kw2 := kw.stored an (.int .i64 ((N + 1 : Nat) : Int))
              have kXw := kX.other (p := ⟨gw, an, none⟩) (by dsimp only; omega) (.int .i64 ((N + 1 : Nat) : Int))
              have kSw := kS.other (p := ⟨gw, an, none⟩) (by dsimp only; omega) (.int .i64 ((N + 1 : Nat) : Int))
              have kaw := ka.other (p := ⟨gw, an, none⟩) (by dsimp only; omega) (.int .i64 ((N + 1 : Nat) : Int))
              have hblw := below_set hbl2 (p := ⟨gw, an, none⟩) (by dsimp only; omega) (.int .i64 ((N + 1 : Nat) : Int))
              have hnew := (hrep.told (st := doneStep who at_ (clOp (an : Int)) val true err point) han9 hst rfl hnn _ _ (Stp.set w10 gw an (.int .i64 ((N + 1 : Nat) : Int))) kw2 (fun t ht => by
                rw [hdW t]
                by_cases e : t = an
                · subst e
                  rw [Array.getElem?_setIfInBounds_self_of_lt (by omega), hN]
                  simp
                · rw [Array.getElem?_setIfInBounds_ne (by omega)]
                  have hne' : ¬ ((an : Int) = t) := by omega
                  simpa [hne'] using hcw t ht) (by simp [hw9]))
              go_upto_region 38 with fail
              clear qw fw lw qa fa la y2
              rw [show ((N : Int) + 1) = ((N + 1 : Nat) : Int) from rfl]
              generalize w10.setCell ⟨gw, an, none⟩ (.int .i64 ((N + 1 : Nat) : Int)) = w11 at *
              have qa := (kaw.cell an).trans (hca an han9)
              have fa := kaw.free an
              have la := kaw.lt
              have y2 := kSw.cell 2
              have qw : True := trivial
              have fw : True := trivial
              have lw := kSw.lt
              simp at y2
              obtain ⟨cs', hse⟩ := hnew.seats
              obtain ⟨G', cp', e1, e2, _⟩ := hse.at_ who _ HX.out
              have kX2 := kXw.other (p := ⟨ga, an, none⟩) (by dsimp only; omega) (.bool true)
              have hbl3 := below_set hblw (p := ⟨ga, an, none⟩) (by dsimp only; omega) (.bool true)
              have HNEW := Lib.hid hnew
              have HSE := Lib.hid (And.intro hse (And.intro e1 e2))
              clear hrep hse hcw hca hnew e1 e2 ka kw
              go_upto_region 39 with fail
              have hnew := HNEW.out
              have hse := HSE.out.1
              have c1 := (hse.row.cell (who * 2)).trans HSE.out.2.1
              have c2 := (hse.row.cell (who * 2 + 1)).trans HSE.out.2.2
              have f1 := hse.row.free (who * 2)
              have f2 := hse.row.free (who * 2 + 1)
              have l1 := hse.row.lt
              clear HNEW HSE x0 y2 v1 qa fa la qw fw lw
              generalize w11.setCell ⟨ga, an, none⟩ (.bool true) = w12 at *
              have x0 := kX2.cell 0
              have lX := kX2.lt
              simp at x0
              have hrep2 := hnew.seat (who := who) (a := at_ + 1) (log := []) (G := none) (cap := 0) hwl (World.ownsRow_nil _ _ _ _)
              simp only [List.length_nil] at hrep2
              have hbl4 := below_set (below_set hbl3 (p := ⟨gs, who * 2, none⟩) (by dsimp only; omega) (.int .i64 ((at_ + 1 : Nat) : Int))) (p := ⟨gs, who * 2 + 1, none⟩) (by dsimp only; omega) (.slice none 0 0)
              have HR2 := Lib.hid hrep2
              have HB4 := Lib.hid hbl4
              clear hnew hrep2 hbl4 hse
              go_wp2_with fail
              refine ⟨⟨k + 1, _, by rw [HLEN.out]; omega, by go_num, HB4.out, ?_, HR2.out⟩, by rw [HLEN.out]; simp [intOf]; omega⟩
              rw [List.take_add_one, HWHO.out]
              exact HT.out
          | ask kk cc oo vv =>
            obtain ⟨rfl, hb⟩ := hpost
            replace kX := kX.keep hb
            have hbc := below_tr HBC.out hb
            clear hb HBC kL zz
            have he : (⟨kk, cc, oo, vv⟩ : Acc).err s.m.length = 0 := by
              by_cases he : (⟨kk, cc, oo, vv⟩ : Acc).err s.m.length = 0
              · exact he
              · exfalso
                have hturn : turnP l want who s = none := by
                  unfold turnP
                  rw [HX.out]
                  dsimp only
                  rw [List.getD_eq_getElem?_getD, HO.out, Option.getD_some, HOP.out]
                  dsimp only
                  rw [show clOp (an : Int) = ⟨12, 0, (an : Int), 0⟩ from rfl, HANS.out]
                  exact if_neg he
                have h1 := runP_stop (ws' := (whosC turns).drop (k + 1)) HRUN.out hturn
                rw [← drop_cons_of HWHO.out, List.take_append_drop] at h1
                have h2 := HNS.out
                rw [h1] at h2
                cases h2
            have HHE := Lib.hid he
            clear he
            go_upto_region 40 with fail
            have kA := (Bk.made w9 44 (accC kk cc oo vv)).alloc (.cells outZ 50)
            have zS9 := kX.lt
            replace kX := (kX.alloc (.cells (accC kk cc oo vv) 44)).alloc (.cells outZ 50)
            replace hbc := below_al (below_al hbc (.cells (accC kk cc oo vv) 44)) (.cells outZ 50)
            clear kS
            generalize (w9.alloc (.cells (accC kk cc oo vv) 44)).alloc (.cells outZ 50) = w10 at *
            generalize w9.heap.size = bA at *
            have hrep := HREP.out.keep hbc
            obtain ⟨gm, cm, k5, hom, hgm⟩ := hrep.mem
            have hml : s.m.length ≤ 1000 := by rw [HI.out.ml]; exact hm3
            have zgw : gw < w10.heap.size := by
              obtain ⟨_, kw0, _⟩ := hrep.won
              exact kw0.lt
            have v0 := kA.cell 0
            have v1 := kA.cell 1
            have v2 := kA.cell 2
            have v3 := kA.cell 3
            have q5 := k5.cell 0
            simp at v0 v1 v2 v3 q5
            clear hrep
            go_wp2_with fail
            clear v0 v1 v2 v3 q5
            have hsl := own_sl hom rfl
            (with_reducible refine (do_ok (some ⟨gm, 0, none⟩) cm s.m ⟨kk, cc, oo, vv⟩ _ hsl (by omega) HHE.out).mono ?_)
            rintro e w11 ⟨g2, cap2, rfl, hown2, hb⟩
            have hg2 : g2 ≠ gw := by
              have hpos : 0 < s.m.length := by
                have := (Acc.err_ok HHE.out).2
                omega
              have := (World.ownsRow.lt hown2 g2 rfl).1
              omega
            replace hbc := below_tr hbc hb
            replace kX := kX.keep hb
            replace k5 := k5.keep hb
            replace hown2 : OwnInts w11 0 (.slice (some ⟨g2, 0, none⟩) s.m.length cap2) ((⟨kk, cc, oo, vv⟩ : Acc).make s.m) := own_lower hown2 (Nat.zero_le _)
            have hlm := Acc.make_length ⟨kk, cc, oo, vv⟩ s.m
            have hturn : turnP l want who s = some ⟨(⟨kk, cc, oo, vv⟩ : Acc).make s.m, s.seats.set who (at_, log ++ [((⟨kk, cc, oo, vv⟩ : Acc).had s.m, (⟨kk, cc, oo, vv⟩ : Acc).ok ((⟨kk, cc, oo, vv⟩ : Acc).had s.m))]), s.out ++ [askStep who at_ (clOp (an : Int)) ⟨kk, cc, oo, vv⟩ ((⟨kk, cc, oo, vv⟩ : Acc).had s.m, (⟨kk, cc, oo, vv⟩ : Acc).ok ((⟨kk, cc, oo, vv⟩ : Acc).had s.m))]⟩ := by
              unfold turnP
              rw [HX.out]
              dsimp only
              rw [List.getD_eq_getElem?_getD, HO.out, Option.getD_some, HOP.out]
              dsimp only
              rw [show clOp (an : Int) = ⟨12, 0, (an : Int), 0⟩ from rfl, HANS.out]
              exact if_pos HHE.out
            have hrs := runP_snoc HRUN.out hturn
            clear hb hturn hsl hom HHE
            generalize (⟨kk, cc, oo, vv⟩ : Acc).make s.m = m' at *
            generalize (⟨kk, cc, oo, vv⟩ : Acc).had s.m = had at *
            generalize (⟨kk, cc, oo, vv⟩ : Acc).ok had = gok at *
            have HT := Lib.hid hrs
            have HLM := Lib.hid hlm
            clear hrs hlm kA
            go_upto_region 43 with fail
            have zN := kX.lt
            have kN := (Bk.made w11 39 #[.slice (some ⟨g2, 0, none⟩) s.m.length cap2]).alloc (.cells #[.int .i64 had, .bool gok] 46)
            have kR := Bk.new (w11.alloc (.cells #[.slice (some ⟨g2, 0, none⟩) s.m.length cap2] 39)) (g := w11.heap.size + 1) (by simp) 46 #[.int .i64 had, .bool gok]
            replace kX := (kX.alloc (.cells #[.slice (some ⟨g2, 0, none⟩) s.m.length cap2] 39)).alloc (.cells #[.int .i64 had, .bool gok] 46)
            replace k5 := (k5.alloc (.cells #[.slice (some ⟨g2, 0, none⟩) s.m.length cap2] 39)).alloc (.cells #[.int .i64 had, .bool gok] 46)
            replace hbc := below_al (below_al hbc (.cells #[.slice (some ⟨g2, 0, none⟩) s.m.length cap2] 39)) (.cells #[.int .i64 had, .bool gok] 46)
            replace hown2 := (hown2.alloc (.cells #[.slice (some ⟨g2, 0, none⟩) s.m.length cap2] 39)).alloc (.cells #[.int .i64 had, .bool gok] 46)
            generalize (w11.alloc (.cells #[.slice (some ⟨g2, 0, none⟩) s.m.length cap2] 39)).alloc (.cells #[.int .i64 had, .bool gok] 46) = w12 at *
            generalize w11.heap.size = bN at *
            have q5 := k5.cell 0
            have f5 := k5.free 0
            have l5 := k5.lt
            have v0 := kN.cell 0
            simp at q5 v0
            go_upto_region 44 with fail
            clear q5 f5 l5 v0 kN
            have zXb : b14 < bX := by have := z4; have := zS; omega
            have st := (Stp.of_below b14 hbc).trans (Stp.set w12 b14 0 (.slice (some ⟨g2, 0, none⟩) s.m.length cap2))
            replace hown2 := hown2.far (p := ⟨b14, 0, none⟩) (own_ne hown2 k5 (by decide)) (.slice (some ⟨g2, 0, none⟩) s.m.length cap2)
            replace k5 : Bk (w12.setCell ⟨b14, 0, none⟩ (.slice (some ⟨g2, 0, none⟩) s.m.length cap2)) b14 39 #[.slice (some ⟨g2, 0, none⟩) s.m.length cap2] := k5.stored 0 (.slice (some ⟨g2, 0, none⟩) s.m.length cap2)
            replace kX := kX.other (p := ⟨b14, 0, none⟩) (by dsimp only; omega) (.slice (some ⟨g2, 0, none⟩) s.m.length cap2)
            replace kR := kR.other (p := ⟨b14, 0, none⟩) (by dsimp only; omega) (.slice (some ⟨g2, 0, none⟩) s.m.length cap2)
            clear hbc
            generalize w12.setCell ⟨b14, 0, none⟩ (.slice (some ⟨g2, 0, none⟩) s.m.length cap2) = w13 at *
            have hrep := HREP.out.memory st HLM.out k5 hown2 hg2
            have hbl2 := st.below (by omega) hbl
            obtain ⟨_, _, k5c, _⟩ := HREP.out.mem
            have hres : OwnRes w13 0 (.slice G log.length cp) log := own_keptT HRES.out (keptT_stp k5c st) (by decide)
            clear st k5 hown2 k5c
            have HR := Lib.hid hrep
            have HB := Lib.hid hbl2
            clear hrep hbl2
            refine log44 _ _ _ _ _ _ _ _ _ _ _ _ _ _ _ _ _ _ _ _ _ _ _ _ _ _ _ _ _ _ _ _ _ _ _ _ _ _ _ _ _ _ _ _ _ _ _ _ _ _ _ _ _ _ _ _ _ _ _ _ _ _ _ _ _ _ _ _ _ _ _ _ _ _ _ _ _ _ _ _ _ _ _ _ _ _ _ _ _ _ _ _ _ _ _ _ _ _ _ _ _ _ _ _ _ _ _ _ _ _ _ _ _ _ _ _ _ _ _ _ _ _ _ _ _ _ _ _ _ _ _ _ _ _ _ _ _ _ _ _ _ _ _ _ _ _ _ _ _ _ _ _ _ _ _ _ _ _ _ _ _ _ _ _ _ _ _ _ _ _ _ _ _ _ _ _ _ _ _ _ _ _ _ _ _ _ _ _ _ _ _ _ _ _ _ _ _ _ _ _ _ _ _ _ _ _ _ _ _ _ _ _ _ _ _ _ _ _ _ _ _ _ _ _ _ _ _ _ _ _ _ _ w13 bX (bN + 1) at_ G cp log had gok (fun _ _ _ _ _ h => HQ.out _ _ _ _ _ h) (by omega) hxl kX kR hres ?_
            intro G2 cp2 w18 x0 x1 x2 x3 x4 x5 x6 x7 st kX2 hres2
            have hrep := HR.out.aside kX st (by omega)
            have hbl2 := st.below (by omega) HB.out
            clear st kX kR hres HR HB
            obtain ⟨cs', hse⟩ := hrep.seats
            obtain ⟨G', cp', e1, e2, hres'⟩ := hse.at_ who _ HX.out
            have c1 := (hse.row.cell (who * 2)).trans e1
            have c2 := (hse.row.cell (who * 2 + 1)).trans e2
            have f1 := hse.row.free (who * 2)
            have f2 := hse.row.free (who * 2 + 1)
            have l1 := hse.row.lt
            have y0 := kX2.cell 0
            have y1 := kX2.cell 1
            have l2 := kX2.lt
            simp at y0 y1
            have hwl : who < s.seats.length := by rw [HI.out.ns]; exact hwn
            have hlg : (log ++ [(had, gok)]).length = log.length + 1 := by simp
            rw [← hlg] at hres2
            have hrep2 := (hrep.seat (who := who) (a := at_) hwl hres2).ghost (st := askStep who at_ (clOp (an : Int)) ⟨kk, cc, oo, vv⟩ (had, gok)) rfl
            rw [hlg] at hrep2
            have hbl3 := below_set (below_set hbl2 (p := ⟨gs, who * 2, none⟩) (by dsimp only; omega) (.int .i64 (at_ : Nat))) (p := ⟨gs, who * 2 + 1, none⟩) (by dsimp only; omega) (.slice G2 (log.length + 1) cp2)
            have HR2 := Lib.hid hrep2
            have HB3 := Lib.hid hbl3
            clear hrep hrep2 hbl3 hbl2 e1 e2 hres' hse hwl hlg hres2
            go_wp2_with fail
            refine ⟨⟨k + 1, _, by rw [HLEN.out]; omega, by go_num, HB3.out, ?_, HR2.out⟩, by rw [HLEN.out]; simp [intOf]; omega⟩
            rw [List.take_add_one, HWHO.out]
            exact HT.out
    · obtain rfl : k = m + 60 := by omega
      have hsF : (runP l want s0 (whosC turns)).1 = s := by
        have h1 := HRUN.out
        rw [List.take_of_length_le (by rw [HLEN.out]; exact Nat.le_refl _)] at h1
        rw [h1]
      have HREP := Lib.hid hrep
      have HSF := Lib.hid hsF
      have i0 : decide (((m + 60 : Nat) : Int) < m + 60) = false := by simp
      clear hrep hsF
      go_wp2_with fail
      have hrep := HREP.out
      rw [← HSF.out] at hrep
      exact HK.out _ _ _ _ _ _ _ _ _ _ _ _ _ _ _ _ _ _ _ _ _ _ _ _ _ _ _ _ _ _ _ _ _ _ _ _ _ _ _ _ _ _ _ _ _ _ _ _ _ _ _ _ _ _ _ _ _ _ _ _ _ _ _ _ _ _ _ _ _ _ _ _ _ _ _ _ _ _ _ _ _ _ _ _ _ _ _ _ _ _ _ _ _ _ _ _ _ _ _ _ _ _ _ _ _ _ _ _ _ _ _ _ _ _ _ wr hbl hrep
end Go.Proofs.Ytcjaomiihajjbaa
