/- The region that lengthens a seat's log, of TaskClaims. Printed by logs_gen.py. -/
import Derived.Test.YtcjaomiihajjbaaPlayL
namespace Go.Proofs.Ytcjaomiihajjbaa
open Go.RowKit
set_option linter.unusedVariables false
attribute [local go_sem ↓] Go.wp_at_zero Go.wp_at_succ

noncomputable def log44C : Code := ((Try.f4.body.bind (findR 44)).getD .skip)
set_option maxRecDepth 100000 in
set_option maxHeartbeats 4000000 in
theorem log44 {K : Act → World → Prop} {Q : Exit → Act → World → Prop} (u0 u1 u2 u3 u4 u5 u6 u7 u8 u9 u10 u11 u12 u13 u14 u15 u16 u17 u18 u19 u20 u21 u22 u23 u25 u26 u27 u28 u29 u31 u32 u33 u34 u35 u36 u37 u38 u39 u40 u41 u42 u43 u44 u45 u46 u47 u48 u49 u50 u51 u52 u53 u54 u55 u56 u57 u58 u59 u60 u61 u62 u63 u64 u65 u66 u67 u68 u69 u70 u71 u72 u73 u74 u75 u76 u77 u78 u79 u80 u81 u82 u83 u84 u85 u86 u87 u88 u89 u90 u91 u92 u93 u94 u95 u96 u97 u98 u99 u100 u101 u102 u103 u104 u105 u106 u107 u108 u109 u110 u111 u112 u113 u114 u115 u116 u117 u118 u119 u120 u121 u122 u123 u124 u125 u126 u127 u128 u129 u130 u131 u132 u133 u134 u135 u136 u137 u138 u139 u140 u141 u142 u143 u144 u145 u146 u147 u148 u149 u150 u151 u152 u153 u154 u155 u156 u157 u158 u159 u160 u161 u162 u163 u164 u165 u166 u167 u168 u169 u170 u171 u172 u173 u174 u175 u176 u177 u178 u179 u180 u181 u182 u183 u184 u185 u186 u187 u188 u189 u190 u191 u192 u193 u194 u195 u196 u197 u198 u199 u200 u201 u202 u203 u204 u205 u206 u207 u208 u209 u210 u211 u212 u213 u214 u215 u216 u217 u218 u219 u220 u221 u222 u223 u224 u225 u226 u227 u228 u229 u230 u231 u232 u233 : Value) (w : World) (bX bR at_ : Nat) (G : Option Addr) (cp : Nat) (log : List (Int × Bool)) (had : Int) (gok : Bool) (hQ : ∀ c (a : Act) (dst : Tmp) v w, Q (.panic c) (a.put (some dst) v) w → Q (.panic c) a w) (hne : bX ≠ bR) (hxl : log.length ≤ 400)
    (kX : Bk w bX 63 #[.int .i64 (at_ : Nat), .slice G log.length cp]) (kR : Bk w bR 46 #[.int .i64 had, .bool gok]) (hres : OwnRes w 0 (.slice G log.length cp) log)
    (hK : ∀ (G' : Option Addr) (cp' : Nat) (wx : World) (x0 x1 x2 x3 x4 x5 x6 x7 : Value), Stp bX w wx → Bk wx bX 63 #[.int .i64 (at_ : Nat), .slice G' (log.length + 1) cp'] → OwnRes wx 0 (.slice G' (log.length + 1) cp') (log ++ [(had, gok)]) → K ⟨#[u0, u1, u2, u3, u4, u5, u6, u7, u8, u9, u10, u11, u12, u13, u14, u15, u16, u17, u18, u19, u20, u21, u22, u23, (ptr bX), u25, u26, u27, u28, u29, (ptr bR), u31, u32, u33, u34, u35, u36, u37, u38, u39, u40, u41, u42, u43, u44, u45, u46, u47, u48, u49, u50, u51, u52, u53, u54, u55, u56, u57, u58, u59, u60, u61, u62, u63, u64, u65, u66, u67, u68, u69, u70, u71, u72, u73, u74, u75, u76, u77, u78, u79, u80, u81, u82, u83, u84, u85, u86, u87, u88, u89, u90, u91, u92, u93, u94, u95, u96, u97, u98, u99, u100, u101, u102, u103, u104, u105, u106, u107, u108, u109, u110, u111, u112, u113, u114, u115, u116, u117, u118, u119, u120, u121, u122, u123, u124, u125, u126, u127, u128, u129, u130, u131, u132, u133, u134, u135, u136, u137, u138, u139, u140, u141, u142, u143, u144, u145, u146, u147, u148, u149, u150, u151, u152, u153, u154, u155, u156, u157, u158, u159, u160, u161, u162, u163, u164, u165, u166, u167, u168, u169, u170, u171, u172, u173, u174, u175, u176, u177, u178, u179, u180, u181, u182, u183, u184, u185, u186, u187, u188, u189, u190, u191, u192, u193, u194, u195, x0, x1, x2, x3, x4, x5, x6, x7, u204, u205, u206, u207, u208, u209, u210, u211, u212, u213, u214, u215, u216, u217, u218, u219, u220, u221, u222, u223, u224, u225, u226, u227, u228, u229, u230, u231, u232, u233], []⟩ wx) :
    Code.wp Try.prog log44C (Exit.then K Q) ⟨#[u0, u1, u2, u3, u4, u5, u6, u7, u8, u9, u10, u11, u12, u13, u14, u15, u16, u17, u18, u19, u20, u21, u22, u23, (ptr bX), u25, u26, u27, u28, u29, (ptr bR), u31, u32, u33, u34, u35, u36, u37, u38, u39, u40, u41, u42, u43, u44, u45, u46, u47, u48, u49, u50, u51, u52, u53, u54, u55, u56, u57, u58, u59, u60, u61, u62, u63, u64, u65, u66, u67, u68, u69, u70, u71, u72, u73, u74, u75, u76, u77, u78, u79, u80, u81, u82, u83, u84, u85, u86, u87, u88, u89, u90, u91, u92, u93, u94, u95, u96, u97, u98, u99, u100, u101, u102, u103, u104, u105, u106, u107, u108, u109, u110, u111, u112, u113, u114, u115, u116, u117, u118, u119, u120, u121, u122, u123, u124, u125, u126, u127, u128, u129, u130, u131, u132, u133, u134, u135, u136, u137, u138, u139, u140, u141, u142, u143, u144, u145, u146, u147, u148, u149, u150, u151, u152, u153, u154, u155, u156, u157, u158, u159, u160, u161, u162, u163, u164, u165, u166, u167, u168, u169, u170, u171, u172, u173, u174, u175, u176, u177, u178, u179, u180, u181, u182, u183, u184, u185, u186, u187, u188, u189, u190, u191, u192, u193, u194, u195, u196, u197, u198, u199, u200, u201, u202, u203, u204, u205, u206, u207, u208, u209, u210, u211, u212, u213, u214, u215, u216, u217, u218, u219, u220, u221, u222, u223, u224, u225, u226, u227, u228, u229, u230, u231, u232, u233], []⟩ w := by
  dsimp only at hK ⊢
  have HK := Lib.hid hK
  have HQ := Lib.hid hQ
  clear hK hQ
  conv => arg 2; whnf
  refine wp_region_held_drew (S := fun w' => Bk w' bR 46 #[.int .i64 had, .bool gok]) (by kernel_rfl) kR.drew (fun hHeld => ?_)
  clear hHeld
  replace kX := kX.drew
  replace kR := kR.drew
  replace hres : OwnRes (w).drew 0 (.slice G log.length cp) log := hres
  have hb := below_drew (Below.refl (w).heap.size (w))
  have zX : bX < (w).heap.size := kX.lt
  have zR : bR < (w).heap.size := kR.lt
  generalize (w).drew = wl0 at *
  refine wpAnyH_take (i := 1) (oi := _) (v := .pointer (some ⟨bX, 1, none⟩)) rfl (by kernel_rfl) (by kernel_rfl) (by kernel_rfl) (fun _ _ _ h => HQ.out _ _ _ _ _ h) (Or.inl ⟨by rfl, ?_⟩) kR ?_
  · intro w' hSw
    (try simp only [List.getElem_toArray, List.getElem_cons_succ, List.getElem_cons_zero])
    go_simp
  (try simp only [List.getElem_toArray, List.getElem_cons_succ, List.getElem_cons_zero, Act.put, List.setIfInBounds_toArray, List.set_cons_zero, List.set_cons_succ])
  refine wpAnyH_take (i := 4) (oi := _) (v := .agg #[.int .i64 had, .bool gok]) rfl (by kernel_rfl) (by kernel_rfl) (by kernel_rfl) (fun _ _ _ h => HQ.out _ _ _ _ _ h) (Or.inl ⟨by rfl, ?_⟩) kR ?_
  · intro w' hSw
    have s1 := hSw.cell 0
    have s2 := hSw.cell 1
    simp at s1 s2
    (try simp only [List.getElem_toArray, List.getElem_cons_succ, List.getElem_cons_zero])
    go_simp
  (try simp only [List.getElem_toArray, List.getElem_cons_succ, List.getElem_cons_zero, Act.put, List.setIfInBounds_toArray, List.set_cons_zero, List.set_cons_succ])
  refine wpAnyH_ready (rs := [0, 2, 5]) (by kernel_rfl) (by simp) ?_
  refine (AllReadyH.cons (o := _) rfl (fun K hK => ?_) (AllReadyH.cons (o := _) rfl (fun K hK => ?_) (AllReadyH.cons (o := _) rfl (fun K hK => ?_) AllReadyH.nil)))
  · rw [if_pos (by rfl)]
    refine wp_build0 rfl ?_
    have hA := own_build0 wl0 w.heap.size hb.size
    have zA : w.heap.size ≤ wl0.heap.size := hb.size
    replace kX := kX.alloc (.cells #[] 46)
    replace kR := kR.alloc (.cells #[] 46)
    replace hres := World.ownsRow.alloc hres (.cells #[] 46)
    replace hb := below_al hb (.cells #[] 46)
    refine hK.out _ _ kR (fun hS' => ?_)
    clear hS' hK K
    (try simp only [List.getElem_toArray, List.getElem_cons_zero, Act.put, List.setIfInBounds_toArray, List.set_cons_zero, List.set_cons_succ])
    generalize wl0.alloc (.cells #[] 46) = wl1 at *
    generalize wl0.heap.size = gA at *
    refine wpAnyH_ready (rs := [2, 5]) (by kernel_rfl) (by simp) ?_
    refine (AllReadyH.cons (o := _) rfl (fun K hK => ?_) (AllReadyH.cons (o := _) rfl (fun K hK => ?_) AllReadyH.nil))
    · have x1 := kX.cell 1
      simp at x1
      (try simp only [List.getElem_toArray, List.getElem_cons_succ, List.getElem_cons_zero])
      go_simp
      clear x1
      refine hK.out _ _ kR (fun hS' => ?_)
      clear hS' hK K
      (try simp only [List.getElem_toArray, List.getElem_cons_succ, List.getElem_cons_zero, Act.put, List.setIfInBounds_toArray, List.set_cons_zero, List.set_cons_succ])
      refine wpAnyH_ready (rs := [3, 5]) (by kernel_rfl) (by simp) ?_
      refine (AllReadyH.cons (o := _) rfl (fun K hK => ?_) (AllReadyH.cons (o := _) rfl (fun K hK => ?_) AllReadyH.nil))
      · rw [if_pos (by rfl)]
        refine wp_append_log (.tmp 196) (.tmp 198) rfl w.heap.size _ rfl hA G cp log rfl hres (by omega) hb.size ?_
        intro vB wl3 hB hg
        have hk := keptT_grown hA hg
        replace kX := kX.keptT hk (by decide)
        replace kR := kR.grown hg (fun e => by have := (World.ownsRow.lt hA _ e.symm).1; omega)
        replace hb := grown_below hb hA hg hb.size (Nat.le_refl _)
        clear hk hA hres hg
        refine hK.out _ _ kR (fun hS' => ?_)
        clear hS' hK K
        (try simp only [List.getElem_toArray, List.getElem_cons_succ, List.getElem_cons_zero, Act.put, List.setIfInBounds_toArray, List.set_cons_zero, List.set_cons_succ])
        have hB0 := hB
        refine wpAnyH_ready (rs := [5]) (by kernel_rfl) (by simp) ?_
        refine (AllReadyH.cons (o := _) rfl (fun K hK => ?_) AllReadyH.nil)
        rw [if_pos (by rfl)]
        refine wp_build1 (.tmp 200) had gok rfl rfl ?_
        have kC := Bk.made wl3 46 #[.int .i64 had, .bool gok]
        have zC0 : w.heap.size ≤ wl3.heap.size := hb.size
        replace kX := kX.alloc (.cells #[.int .i64 had, .bool gok] 46)
        replace kR := kR.alloc (.cells #[.int .i64 had, .bool gok] 46)
        replace hb := below_al hb (.cells #[.int .i64 had, .bool gok] 46)
        replace hB := World.ownsRow.alloc hB (.cells #[.int .i64 had, .bool gok] 46)
        have zB : vB.ownBlock ≠ some wl3.heap.size := fun e => by have := (World.ownsRow.lt hB0 _ e).2; omega
        refine hK.out _ _ kR (fun hS' => ?_)
        clear hS' hK K
        (try simp only [List.getElem_toArray, List.getElem_cons_succ, List.getElem_cons_zero, Act.put, List.setIfInBounds_toArray, List.set_cons_zero, List.set_cons_succ])
        generalize wl3.alloc (.cells #[.int .i64 had, .bool gok] 46) = wl4 at *
        generalize wl3.heap.size = gC at *
        refine wpAnyH_ready (rs := [6]) (by kernel_rfl) (by simp) ?_
        refine (AllReadyH.cons (o := _) rfl (fun K hK => ?_) AllReadyH.nil)
        rw [if_pos (by rfl)]
        refine wp_append_res1 (.tmp 199) (.tmp 201) rfl w.heap.size _ log.length (resCells log) rfl hB had gok gC 1 rfl kC (by omega) hb.size ?_
        intro vD wl5 hD hg
        have hk := keptT_grown hB hg
        replace kX := kX.keptT hk (by decide)
        replace kR := kR.grown hg (fun e => by have := (World.ownsRow.lt hB _ e.symm).1; omega)
        replace hb := grown_below hb hB hg hb.size (Nat.le_refl _)
        obtain ⟨GD, cD, rfl⟩ := own_slice hD
        clear hk hB hg kC
        refine hK.out _ _ kR (fun hS' => ?_)
        clear hS' hK K
        (try simp only [List.getElem_toArray, List.getElem_cons_succ, List.getElem_cons_zero, Act.put, List.setIfInBounds_toArray, List.set_cons_zero, List.set_cons_succ])
        refine wpAnyH_take (i := 7) (oi := _) (v := .pointer (some ⟨bX, 1, none⟩)) rfl (by kernel_rfl) (by kernel_rfl) (by kernel_rfl) (fun _ _ _ h => HQ.out _ _ _ _ _ h) (Or.inl ⟨by rfl, ?_⟩) kR ?_
        · intro w' hSw
          (try simp only [List.getElem_toArray, List.getElem_cons_succ, List.getElem_cons_zero])
          go_simp
        (try simp only [List.getElem_toArray, List.getElem_cons_succ, List.getElem_cons_zero, Act.put, List.setIfInBounds_toArray, List.set_cons_zero, List.set_cons_succ])
        refine wpAnyH_ready (rs := [8]) (by kernel_rfl) (by simp) ?_
        refine (AllReadyH.cons (o := _) rfl (fun K hK => ?_) AllReadyH.nil)
        have x1 := kX.cell 1
        have xf := kX.free 1
        have xl := kX.lt
        simp at x1
        (try simp only [List.getElem_toArray, List.getElem_cons_succ, List.getElem_cons_zero])
        go_simp
        clear x1 xf xl
        replace hD := own_keptT hD (keptT_set kX 1 (.slice GD (log.length + 1) cD)) (by decide)
        replace kR := kR.other (p := ⟨bX, 1, none⟩) (by dsimp only; omega) (.slice GD (log.length + 1) cD)
        have st := (Stp.of_below bX hb).trans (Stp.set wl5 bX 1 (.slice GD (log.length + 1) cD))
        have kXn : Bk (wl5.setCell ⟨bX, 1, none⟩ (.slice GD (log.length + 1) cD)) bX 63 #[.int .i64 (at_ : Nat), .slice GD (log.length + 1) cD] := kX.stored 1 (.slice GD (log.length + 1) cD)
        refine hK.out _ _ kR (fun hS' => ?_)
        clear hS' hK K
        (try simp only [List.getElem_toArray, List.getElem_cons_succ, List.getElem_cons_zero, Act.put, List.setIfInBounds_toArray, List.set_cons_zero, List.set_cons_succ])
        refine wpAnyH_done (by kernel_rfl) ?_ _
        exact HK.out GD cD _ _ _ _ _ _ _ _ _ st kXn (logOwn hD)
      · rw [if_pos (by rfl)]
        refine wp_build1 (.tmp 200) had gok rfl rfl ?_
        have kC := Bk.made wl1 46 #[.int .i64 had, .bool gok]
        have zC0 : w.heap.size ≤ wl1.heap.size := hb.size
        replace kX := kX.alloc (.cells #[.int .i64 had, .bool gok] 46)
        replace kR := kR.alloc (.cells #[.int .i64 had, .bool gok] 46)
        replace hb := below_al hb (.cells #[.int .i64 had, .bool gok] 46)
        replace hres := World.ownsRow.alloc hres (.cells #[.int .i64 had, .bool gok] 46)
        have zC : gA < wl1.heap.size := by obtain ⟨_, hh⟩ := World.ownsRow.lt hA gA rfl; exact hh
        replace hA := World.ownsRow.alloc hA (.cells #[.int .i64 had, .bool gok] 46)
        refine hK.out _ _ kR (fun hS' => ?_)
        clear hS' hK K
        (try simp only [List.getElem_toArray, List.getElem_cons_succ, List.getElem_cons_zero, Act.put, List.setIfInBounds_toArray, List.set_cons_zero, List.set_cons_succ])
        generalize wl1.alloc (.cells #[.int .i64 had, .bool gok] 46) = wl7 at *
        generalize wl1.heap.size = gC at *
        refine wpAnyH_ready (rs := [3]) (by kernel_rfl) (by simp) ?_
        refine (AllReadyH.cons (o := _) rfl (fun K hK => ?_) AllReadyH.nil)
        rw [if_pos (by rfl)]
        refine wp_append_log (.tmp 196) (.tmp 198) rfl w.heap.size _ rfl hA G cp log rfl hres (by omega) hb.size ?_
        intro vB wl8 hB hg
        have hk := keptT_grown hA hg
        replace kX := kX.keptT hk (by decide)
        replace kR := kR.grown hg (fun e => by have := (World.ownsRow.lt hA _ e.symm).1; omega)
        replace kC := kC.grown hg (fun e => by injection e with e; dsimp only at e; omega)
        replace hb := grown_below hb hA hg hb.size (Nat.le_refl _)
        clear hk hA hres hg
        refine hK.out _ _ kR (fun hS' => ?_)
        clear hS' hK K
        (try simp only [List.getElem_toArray, List.getElem_cons_succ, List.getElem_cons_zero, Act.put, List.setIfInBounds_toArray, List.set_cons_zero, List.set_cons_succ])
        refine wpAnyH_ready (rs := [6]) (by kernel_rfl) (by simp) ?_
        refine (AllReadyH.cons (o := _) rfl (fun K hK => ?_) AllReadyH.nil)
        rw [if_pos (by rfl)]
        refine wp_append_res1 (.tmp 199) (.tmp 201) rfl w.heap.size _ log.length (resCells log) rfl hB had gok gC 1 rfl kC (by omega) hb.size ?_
        intro vD wl9 hD hg
        have hk := keptT_grown hB hg
        replace kX := kX.keptT hk (by decide)
        replace kR := kR.grown hg (fun e => by have := (World.ownsRow.lt hB _ e.symm).1; omega)
        replace hb := grown_below hb hB hg hb.size (Nat.le_refl _)
        obtain ⟨GD, cD, rfl⟩ := own_slice hD
        clear hk hB hg kC
        refine hK.out _ _ kR (fun hS' => ?_)
        clear hS' hK K
        (try simp only [List.getElem_toArray, List.getElem_cons_succ, List.getElem_cons_zero, Act.put, List.setIfInBounds_toArray, List.set_cons_zero, List.set_cons_succ])
        refine wpAnyH_take (i := 7) (oi := _) (v := .pointer (some ⟨bX, 1, none⟩)) rfl (by kernel_rfl) (by kernel_rfl) (by kernel_rfl) (fun _ _ _ h => HQ.out _ _ _ _ _ h) (Or.inl ⟨by rfl, ?_⟩) kR ?_
        · intro w' hSw
          (try simp only [List.getElem_toArray, List.getElem_cons_succ, List.getElem_cons_zero])
          go_simp
        (try simp only [List.getElem_toArray, List.getElem_cons_succ, List.getElem_cons_zero, Act.put, List.setIfInBounds_toArray, List.set_cons_zero, List.set_cons_succ])
        refine wpAnyH_ready (rs := [8]) (by kernel_rfl) (by simp) ?_
        refine (AllReadyH.cons (o := _) rfl (fun K hK => ?_) AllReadyH.nil)
        have x1 := kX.cell 1
        have xf := kX.free 1
        have xl := kX.lt
        simp at x1
        (try simp only [List.getElem_toArray, List.getElem_cons_succ, List.getElem_cons_zero])
        go_simp
        clear x1 xf xl
        replace hD := own_keptT hD (keptT_set kX 1 (.slice GD (log.length + 1) cD)) (by decide)
        replace kR := kR.other (p := ⟨bX, 1, none⟩) (by dsimp only; omega) (.slice GD (log.length + 1) cD)
        have st := (Stp.of_below bX hb).trans (Stp.set wl9 bX 1 (.slice GD (log.length + 1) cD))
        have kXn : Bk (wl9.setCell ⟨bX, 1, none⟩ (.slice GD (log.length + 1) cD)) bX 63 #[.int .i64 (at_ : Nat), .slice GD (log.length + 1) cD] := kX.stored 1 (.slice GD (log.length + 1) cD)
        refine hK.out _ _ kR (fun hS' => ?_)
        clear hS' hK K
        (try simp only [List.getElem_toArray, List.getElem_cons_succ, List.getElem_cons_zero, Act.put, List.setIfInBounds_toArray, List.set_cons_zero, List.set_cons_succ])
        refine wpAnyH_done (by kernel_rfl) ?_ _
        exact HK.out GD cD _ _ _ _ _ _ _ _ _ st kXn (logOwn hD)
    · rw [if_pos (by rfl)]
      refine wp_build1 (.tmp 200) had gok rfl rfl ?_
      have kC := Bk.made wl1 46 #[.int .i64 had, .bool gok]
      have zC0 : w.heap.size ≤ wl1.heap.size := hb.size
      replace kX := kX.alloc (.cells #[.int .i64 had, .bool gok] 46)
      replace kR := kR.alloc (.cells #[.int .i64 had, .bool gok] 46)
      replace hb := below_al hb (.cells #[.int .i64 had, .bool gok] 46)
      replace hres := World.ownsRow.alloc hres (.cells #[.int .i64 had, .bool gok] 46)
      have zC : gA < wl1.heap.size := by obtain ⟨_, hh⟩ := World.ownsRow.lt hA gA rfl; exact hh
      replace hA := World.ownsRow.alloc hA (.cells #[.int .i64 had, .bool gok] 46)
      refine hK.out _ _ kR (fun hS' => ?_)
      clear hS' hK K
      (try simp only [List.getElem_toArray, List.getElem_cons_succ, List.getElem_cons_zero, Act.put, List.setIfInBounds_toArray, List.set_cons_zero, List.set_cons_succ])
      generalize wl1.alloc (.cells #[.int .i64 had, .bool gok] 46) = wl11 at *
      generalize wl1.heap.size = gC at *
      refine wpAnyH_ready (rs := [2]) (by kernel_rfl) (by simp) ?_
      refine (AllReadyH.cons (o := _) rfl (fun K hK => ?_) AllReadyH.nil)
      have x1 := kX.cell 1
      simp at x1
      (try simp only [List.getElem_toArray, List.getElem_cons_succ, List.getElem_cons_zero])
      go_simp
      clear x1
      refine hK.out _ _ kR (fun hS' => ?_)
      clear hS' hK K
      (try simp only [List.getElem_toArray, List.getElem_cons_succ, List.getElem_cons_zero, Act.put, List.setIfInBounds_toArray, List.set_cons_zero, List.set_cons_succ])
      refine wpAnyH_ready (rs := [3]) (by kernel_rfl) (by simp) ?_
      refine (AllReadyH.cons (o := _) rfl (fun K hK => ?_) AllReadyH.nil)
      rw [if_pos (by rfl)]
      refine wp_append_log (.tmp 196) (.tmp 198) rfl w.heap.size _ rfl hA G cp log rfl hres (by omega) hb.size ?_
      intro vB wl13 hB hg
      have hk := keptT_grown hA hg
      replace kX := kX.keptT hk (by decide)
      replace kR := kR.grown hg (fun e => by have := (World.ownsRow.lt hA _ e.symm).1; omega)
      replace kC := kC.grown hg (fun e => by injection e with e; dsimp only at e; omega)
      replace hb := grown_below hb hA hg hb.size (Nat.le_refl _)
      clear hk hA hres hg
      refine hK.out _ _ kR (fun hS' => ?_)
      clear hS' hK K
      (try simp only [List.getElem_toArray, List.getElem_cons_succ, List.getElem_cons_zero, Act.put, List.setIfInBounds_toArray, List.set_cons_zero, List.set_cons_succ])
      refine wpAnyH_ready (rs := [6]) (by kernel_rfl) (by simp) ?_
      refine (AllReadyH.cons (o := _) rfl (fun K hK => ?_) AllReadyH.nil)
      rw [if_pos (by rfl)]
      refine wp_append_res1 (.tmp 199) (.tmp 201) rfl w.heap.size _ log.length (resCells log) rfl hB had gok gC 1 rfl kC (by omega) hb.size ?_
      intro vD wl14 hD hg
      have hk := keptT_grown hB hg
      replace kX := kX.keptT hk (by decide)
      replace kR := kR.grown hg (fun e => by have := (World.ownsRow.lt hB _ e.symm).1; omega)
      replace hb := grown_below hb hB hg hb.size (Nat.le_refl _)
      obtain ⟨GD, cD, rfl⟩ := own_slice hD
      clear hk hB hg kC
      refine hK.out _ _ kR (fun hS' => ?_)
      clear hS' hK K
      (try simp only [List.getElem_toArray, List.getElem_cons_succ, List.getElem_cons_zero, Act.put, List.setIfInBounds_toArray, List.set_cons_zero, List.set_cons_succ])
      refine wpAnyH_take (i := 7) (oi := _) (v := .pointer (some ⟨bX, 1, none⟩)) rfl (by kernel_rfl) (by kernel_rfl) (by kernel_rfl) (fun _ _ _ h => HQ.out _ _ _ _ _ h) (Or.inl ⟨by rfl, ?_⟩) kR ?_
      · intro w' hSw
        (try simp only [List.getElem_toArray, List.getElem_cons_succ, List.getElem_cons_zero])
        go_simp
      (try simp only [List.getElem_toArray, List.getElem_cons_succ, List.getElem_cons_zero, Act.put, List.setIfInBounds_toArray, List.set_cons_zero, List.set_cons_succ])
      refine wpAnyH_ready (rs := [8]) (by kernel_rfl) (by simp) ?_
      refine (AllReadyH.cons (o := _) rfl (fun K hK => ?_) AllReadyH.nil)
      have x1 := kX.cell 1
      have xf := kX.free 1
      have xl := kX.lt
      simp at x1
      (try simp only [List.getElem_toArray, List.getElem_cons_succ, List.getElem_cons_zero])
      go_simp
      clear x1 xf xl
      replace hD := own_keptT hD (keptT_set kX 1 (.slice GD (log.length + 1) cD)) (by decide)
      replace kR := kR.other (p := ⟨bX, 1, none⟩) (by dsimp only; omega) (.slice GD (log.length + 1) cD)
      have st := (Stp.of_below bX hb).trans (Stp.set wl14 bX 1 (.slice GD (log.length + 1) cD))
      have kXn : Bk (wl14.setCell ⟨bX, 1, none⟩ (.slice GD (log.length + 1) cD)) bX 63 #[.int .i64 (at_ : Nat), .slice GD (log.length + 1) cD] := kX.stored 1 (.slice GD (log.length + 1) cD)
      refine hK.out _ _ kR (fun hS' => ?_)
      clear hS' hK K
      (try simp only [List.getElem_toArray, List.getElem_cons_succ, List.getElem_cons_zero, Act.put, List.setIfInBounds_toArray, List.set_cons_zero, List.set_cons_succ])
      refine wpAnyH_done (by kernel_rfl) ?_ _
      exact HK.out GD cD _ _ _ _ _ _ _ _ _ st kXn (logOwn hD)
  · have x1 := kX.cell 1
    simp at x1
    (try simp only [List.getElem_toArray, List.getElem_cons_succ, List.getElem_cons_zero])
    go_simp
    clear x1
    refine hK.out _ _ kR (fun hS' => ?_)
    clear hS' hK K
    (try simp only [List.getElem_toArray, List.getElem_cons_succ, List.getElem_cons_zero, Act.put, List.setIfInBounds_toArray, List.set_cons_zero, List.set_cons_succ])
    refine wpAnyH_ready (rs := [0, 5]) (by kernel_rfl) (by simp) ?_
    refine (AllReadyH.cons (o := _) rfl (fun K hK => ?_) (AllReadyH.cons (o := _) rfl (fun K hK => ?_) AllReadyH.nil))
    · rw [if_pos (by rfl)]
      refine wp_build0 rfl ?_
      have hA := own_build0 wl0 w.heap.size hb.size
      have zA : w.heap.size ≤ wl0.heap.size := hb.size
      replace kX := kX.alloc (.cells #[] 46)
      replace kR := kR.alloc (.cells #[] 46)
      replace hres := World.ownsRow.alloc hres (.cells #[] 46)
      replace hb := below_al hb (.cells #[] 46)
      refine hK.out _ _ kR (fun hS' => ?_)
      clear hS' hK K
      (try simp only [List.getElem_toArray, List.getElem_cons_zero, Act.put, List.setIfInBounds_toArray, List.set_cons_zero, List.set_cons_succ])
      generalize wl0.alloc (.cells #[] 46) = wl17 at *
      generalize wl0.heap.size = gA at *
      refine wpAnyH_ready (rs := [3, 5]) (by kernel_rfl) (by simp) ?_
      refine (AllReadyH.cons (o := _) rfl (fun K hK => ?_) (AllReadyH.cons (o := _) rfl (fun K hK => ?_) AllReadyH.nil))
      · rw [if_pos (by rfl)]
        refine wp_append_log (.tmp 196) (.tmp 198) rfl w.heap.size _ rfl hA G cp log rfl hres (by omega) hb.size ?_
        intro vB wl18 hB hg
        have hk := keptT_grown hA hg
        replace kX := kX.keptT hk (by decide)
        replace kR := kR.grown hg (fun e => by have := (World.ownsRow.lt hA _ e.symm).1; omega)
        replace hb := grown_below hb hA hg hb.size (Nat.le_refl _)
        clear hk hA hres hg
        refine hK.out _ _ kR (fun hS' => ?_)
        clear hS' hK K
        (try simp only [List.getElem_toArray, List.getElem_cons_succ, List.getElem_cons_zero, Act.put, List.setIfInBounds_toArray, List.set_cons_zero, List.set_cons_succ])
        have hB0 := hB
        refine wpAnyH_ready (rs := [5]) (by kernel_rfl) (by simp) ?_
        refine (AllReadyH.cons (o := _) rfl (fun K hK => ?_) AllReadyH.nil)
        rw [if_pos (by rfl)]
        refine wp_build1 (.tmp 200) had gok rfl rfl ?_
        have kC := Bk.made wl18 46 #[.int .i64 had, .bool gok]
        have zC0 : w.heap.size ≤ wl18.heap.size := hb.size
        replace kX := kX.alloc (.cells #[.int .i64 had, .bool gok] 46)
        replace kR := kR.alloc (.cells #[.int .i64 had, .bool gok] 46)
        replace hb := below_al hb (.cells #[.int .i64 had, .bool gok] 46)
        replace hB := World.ownsRow.alloc hB (.cells #[.int .i64 had, .bool gok] 46)
        have zB : vB.ownBlock ≠ some wl18.heap.size := fun e => by have := (World.ownsRow.lt hB0 _ e).2; omega
        refine hK.out _ _ kR (fun hS' => ?_)
        clear hS' hK K
        (try simp only [List.getElem_toArray, List.getElem_cons_succ, List.getElem_cons_zero, Act.put, List.setIfInBounds_toArray, List.set_cons_zero, List.set_cons_succ])
        generalize wl18.alloc (.cells #[.int .i64 had, .bool gok] 46) = wl19 at *
        generalize wl18.heap.size = gC at *
        refine wpAnyH_ready (rs := [6]) (by kernel_rfl) (by simp) ?_
        refine (AllReadyH.cons (o := _) rfl (fun K hK => ?_) AllReadyH.nil)
        rw [if_pos (by rfl)]
        refine wp_append_res1 (.tmp 199) (.tmp 201) rfl w.heap.size _ log.length (resCells log) rfl hB had gok gC 1 rfl kC (by omega) hb.size ?_
        intro vD wl20 hD hg
        have hk := keptT_grown hB hg
        replace kX := kX.keptT hk (by decide)
        replace kR := kR.grown hg (fun e => by have := (World.ownsRow.lt hB _ e.symm).1; omega)
        replace hb := grown_below hb hB hg hb.size (Nat.le_refl _)
        obtain ⟨GD, cD, rfl⟩ := own_slice hD
        clear hk hB hg kC
        refine hK.out _ _ kR (fun hS' => ?_)
        clear hS' hK K
        (try simp only [List.getElem_toArray, List.getElem_cons_succ, List.getElem_cons_zero, Act.put, List.setIfInBounds_toArray, List.set_cons_zero, List.set_cons_succ])
        refine wpAnyH_take (i := 7) (oi := _) (v := .pointer (some ⟨bX, 1, none⟩)) rfl (by kernel_rfl) (by kernel_rfl) (by kernel_rfl) (fun _ _ _ h => HQ.out _ _ _ _ _ h) (Or.inl ⟨by rfl, ?_⟩) kR ?_
        · intro w' hSw
          (try simp only [List.getElem_toArray, List.getElem_cons_succ, List.getElem_cons_zero])
          go_simp
        (try simp only [List.getElem_toArray, List.getElem_cons_succ, List.getElem_cons_zero, Act.put, List.setIfInBounds_toArray, List.set_cons_zero, List.set_cons_succ])
        refine wpAnyH_ready (rs := [8]) (by kernel_rfl) (by simp) ?_
        refine (AllReadyH.cons (o := _) rfl (fun K hK => ?_) AllReadyH.nil)
        have x1 := kX.cell 1
        have xf := kX.free 1
        have xl := kX.lt
        simp at x1
        (try simp only [List.getElem_toArray, List.getElem_cons_succ, List.getElem_cons_zero])
        go_simp
        clear x1 xf xl
        replace hD := own_keptT hD (keptT_set kX 1 (.slice GD (log.length + 1) cD)) (by decide)
        replace kR := kR.other (p := ⟨bX, 1, none⟩) (by dsimp only; omega) (.slice GD (log.length + 1) cD)
        have st := (Stp.of_below bX hb).trans (Stp.set wl20 bX 1 (.slice GD (log.length + 1) cD))
        have kXn : Bk (wl20.setCell ⟨bX, 1, none⟩ (.slice GD (log.length + 1) cD)) bX 63 #[.int .i64 (at_ : Nat), .slice GD (log.length + 1) cD] := kX.stored 1 (.slice GD (log.length + 1) cD)
        refine hK.out _ _ kR (fun hS' => ?_)
        clear hS' hK K
        (try simp only [List.getElem_toArray, List.getElem_cons_succ, List.getElem_cons_zero, Act.put, List.setIfInBounds_toArray, List.set_cons_zero, List.set_cons_succ])
        refine wpAnyH_done (by kernel_rfl) ?_ _
        exact HK.out GD cD _ _ _ _ _ _ _ _ _ st kXn (logOwn hD)
      · rw [if_pos (by rfl)]
        refine wp_build1 (.tmp 200) had gok rfl rfl ?_
        have kC := Bk.made wl17 46 #[.int .i64 had, .bool gok]
        have zC0 : w.heap.size ≤ wl17.heap.size := hb.size
        replace kX := kX.alloc (.cells #[.int .i64 had, .bool gok] 46)
        replace kR := kR.alloc (.cells #[.int .i64 had, .bool gok] 46)
        replace hb := below_al hb (.cells #[.int .i64 had, .bool gok] 46)
        replace hres := World.ownsRow.alloc hres (.cells #[.int .i64 had, .bool gok] 46)
        have zC : gA < wl17.heap.size := by obtain ⟨_, hh⟩ := World.ownsRow.lt hA gA rfl; exact hh
        replace hA := World.ownsRow.alloc hA (.cells #[.int .i64 had, .bool gok] 46)
        refine hK.out _ _ kR (fun hS' => ?_)
        clear hS' hK K
        (try simp only [List.getElem_toArray, List.getElem_cons_succ, List.getElem_cons_zero, Act.put, List.setIfInBounds_toArray, List.set_cons_zero, List.set_cons_succ])
        generalize wl17.alloc (.cells #[.int .i64 had, .bool gok] 46) = wl22 at *
        generalize wl17.heap.size = gC at *
        refine wpAnyH_ready (rs := [3]) (by kernel_rfl) (by simp) ?_
        refine (AllReadyH.cons (o := _) rfl (fun K hK => ?_) AllReadyH.nil)
        rw [if_pos (by rfl)]
        refine wp_append_log (.tmp 196) (.tmp 198) rfl w.heap.size _ rfl hA G cp log rfl hres (by omega) hb.size ?_
        intro vB wl23 hB hg
        have hk := keptT_grown hA hg
        replace kX := kX.keptT hk (by decide)
        replace kR := kR.grown hg (fun e => by have := (World.ownsRow.lt hA _ e.symm).1; omega)
        replace kC := kC.grown hg (fun e => by injection e with e; dsimp only at e; omega)
        replace hb := grown_below hb hA hg hb.size (Nat.le_refl _)
        clear hk hA hres hg
        refine hK.out _ _ kR (fun hS' => ?_)
        clear hS' hK K
        (try simp only [List.getElem_toArray, List.getElem_cons_succ, List.getElem_cons_zero, Act.put, List.setIfInBounds_toArray, List.set_cons_zero, List.set_cons_succ])
        refine wpAnyH_ready (rs := [6]) (by kernel_rfl) (by simp) ?_
        refine (AllReadyH.cons (o := _) rfl (fun K hK => ?_) AllReadyH.nil)
        rw [if_pos (by rfl)]
        refine wp_append_res1 (.tmp 199) (.tmp 201) rfl w.heap.size _ log.length (resCells log) rfl hB had gok gC 1 rfl kC (by omega) hb.size ?_
        intro vD wl24 hD hg
        have hk := keptT_grown hB hg
        replace kX := kX.keptT hk (by decide)
        replace kR := kR.grown hg (fun e => by have := (World.ownsRow.lt hB _ e.symm).1; omega)
        replace hb := grown_below hb hB hg hb.size (Nat.le_refl _)
        obtain ⟨GD, cD, rfl⟩ := own_slice hD
        clear hk hB hg kC
        refine hK.out _ _ kR (fun hS' => ?_)
        clear hS' hK K
        (try simp only [List.getElem_toArray, List.getElem_cons_succ, List.getElem_cons_zero, Act.put, List.setIfInBounds_toArray, List.set_cons_zero, List.set_cons_succ])
        refine wpAnyH_take (i := 7) (oi := _) (v := .pointer (some ⟨bX, 1, none⟩)) rfl (by kernel_rfl) (by kernel_rfl) (by kernel_rfl) (fun _ _ _ h => HQ.out _ _ _ _ _ h) (Or.inl ⟨by rfl, ?_⟩) kR ?_
        · intro w' hSw
          (try simp only [List.getElem_toArray, List.getElem_cons_succ, List.getElem_cons_zero])
          go_simp
        (try simp only [List.getElem_toArray, List.getElem_cons_succ, List.getElem_cons_zero, Act.put, List.setIfInBounds_toArray, List.set_cons_zero, List.set_cons_succ])
        refine wpAnyH_ready (rs := [8]) (by kernel_rfl) (by simp) ?_
        refine (AllReadyH.cons (o := _) rfl (fun K hK => ?_) AllReadyH.nil)
        have x1 := kX.cell 1
        have xf := kX.free 1
        have xl := kX.lt
        simp at x1
        (try simp only [List.getElem_toArray, List.getElem_cons_succ, List.getElem_cons_zero])
        go_simp
        clear x1 xf xl
        replace hD := own_keptT hD (keptT_set kX 1 (.slice GD (log.length + 1) cD)) (by decide)
        replace kR := kR.other (p := ⟨bX, 1, none⟩) (by dsimp only; omega) (.slice GD (log.length + 1) cD)
        have st := (Stp.of_below bX hb).trans (Stp.set wl24 bX 1 (.slice GD (log.length + 1) cD))
        have kXn : Bk (wl24.setCell ⟨bX, 1, none⟩ (.slice GD (log.length + 1) cD)) bX 63 #[.int .i64 (at_ : Nat), .slice GD (log.length + 1) cD] := kX.stored 1 (.slice GD (log.length + 1) cD)
        refine hK.out _ _ kR (fun hS' => ?_)
        clear hS' hK K
        (try simp only [List.getElem_toArray, List.getElem_cons_succ, List.getElem_cons_zero, Act.put, List.setIfInBounds_toArray, List.set_cons_zero, List.set_cons_succ])
        refine wpAnyH_done (by kernel_rfl) ?_ _
        exact HK.out GD cD _ _ _ _ _ _ _ _ _ st kXn (logOwn hD)
    · rw [if_pos (by rfl)]
      refine wp_build1 (.tmp 200) had gok rfl rfl ?_
      have kC := Bk.made wl0 46 #[.int .i64 had, .bool gok]
      have zC0 : w.heap.size ≤ wl0.heap.size := hb.size
      replace kX := kX.alloc (.cells #[.int .i64 had, .bool gok] 46)
      replace kR := kR.alloc (.cells #[.int .i64 had, .bool gok] 46)
      replace hb := below_al hb (.cells #[.int .i64 had, .bool gok] 46)
      replace hres := World.ownsRow.alloc hres (.cells #[.int .i64 had, .bool gok] 46)
      refine hK.out _ _ kR (fun hS' => ?_)
      clear hS' hK K
      (try simp only [List.getElem_toArray, List.getElem_cons_succ, List.getElem_cons_zero, Act.put, List.setIfInBounds_toArray, List.set_cons_zero, List.set_cons_succ])
      generalize wl0.alloc (.cells #[.int .i64 had, .bool gok] 46) = wl26 at *
      generalize wl0.heap.size = gC at *
      refine wpAnyH_ready (rs := [0]) (by kernel_rfl) (by simp) ?_
      refine (AllReadyH.cons (o := _) rfl (fun K hK => ?_) AllReadyH.nil)
      rw [if_pos (by rfl)]
      refine wp_build0 rfl ?_
      have hA := own_build0 wl26 w.heap.size hb.size
      have zA : w.heap.size ≤ wl26.heap.size := hb.size
      replace kX := kX.alloc (.cells #[] 46)
      replace kR := kR.alloc (.cells #[] 46)
      replace hres := World.ownsRow.alloc hres (.cells #[] 46)
      replace hb := below_al hb (.cells #[] 46)
      have zC := kC.lt
      replace kC := kC.alloc (.cells #[] 46)
      refine hK.out _ _ kR (fun hS' => ?_)
      clear hS' hK K
      (try simp only [List.getElem_toArray, List.getElem_cons_zero, Act.put, List.setIfInBounds_toArray, List.set_cons_zero, List.set_cons_succ])
      generalize wl26.alloc (.cells #[] 46) = wl27 at *
      generalize wl26.heap.size = gA at *
      refine wpAnyH_ready (rs := [3]) (by kernel_rfl) (by simp) ?_
      refine (AllReadyH.cons (o := _) rfl (fun K hK => ?_) AllReadyH.nil)
      rw [if_pos (by rfl)]
      refine wp_append_log (.tmp 196) (.tmp 198) rfl w.heap.size _ rfl hA G cp log rfl hres (by omega) hb.size ?_
      intro vB wl28 hB hg
      have hk := keptT_grown hA hg
      replace kX := kX.keptT hk (by decide)
      replace kR := kR.grown hg (fun e => by have := (World.ownsRow.lt hA _ e.symm).1; omega)
      replace kC := kC.grown hg (fun e => by injection e with e; dsimp only at e; omega)
      replace hb := grown_below hb hA hg hb.size (Nat.le_refl _)
      clear hk hA hres hg
      refine hK.out _ _ kR (fun hS' => ?_)
      clear hS' hK K
      (try simp only [List.getElem_toArray, List.getElem_cons_succ, List.getElem_cons_zero, Act.put, List.setIfInBounds_toArray, List.set_cons_zero, List.set_cons_succ])
      refine wpAnyH_ready (rs := [6]) (by kernel_rfl) (by simp) ?_
      refine (AllReadyH.cons (o := _) rfl (fun K hK => ?_) AllReadyH.nil)
      rw [if_pos (by rfl)]
      refine wp_append_res1 (.tmp 199) (.tmp 201) rfl w.heap.size _ log.length (resCells log) rfl hB had gok gC 1 rfl kC (by omega) hb.size ?_
      intro vD wl29 hD hg
      have hk := keptT_grown hB hg
      replace kX := kX.keptT hk (by decide)
      replace kR := kR.grown hg (fun e => by have := (World.ownsRow.lt hB _ e.symm).1; omega)
      replace hb := grown_below hb hB hg hb.size (Nat.le_refl _)
      obtain ⟨GD, cD, rfl⟩ := own_slice hD
      clear hk hB hg kC
      refine hK.out _ _ kR (fun hS' => ?_)
      clear hS' hK K
      (try simp only [List.getElem_toArray, List.getElem_cons_succ, List.getElem_cons_zero, Act.put, List.setIfInBounds_toArray, List.set_cons_zero, List.set_cons_succ])
      refine wpAnyH_take (i := 7) (oi := _) (v := .pointer (some ⟨bX, 1, none⟩)) rfl (by kernel_rfl) (by kernel_rfl) (by kernel_rfl) (fun _ _ _ h => HQ.out _ _ _ _ _ h) (Or.inl ⟨by rfl, ?_⟩) kR ?_
      · intro w' hSw
        (try simp only [List.getElem_toArray, List.getElem_cons_succ, List.getElem_cons_zero])
        go_simp
      (try simp only [List.getElem_toArray, List.getElem_cons_succ, List.getElem_cons_zero, Act.put, List.setIfInBounds_toArray, List.set_cons_zero, List.set_cons_succ])
      refine wpAnyH_ready (rs := [8]) (by kernel_rfl) (by simp) ?_
      refine (AllReadyH.cons (o := _) rfl (fun K hK => ?_) AllReadyH.nil)
      have x1 := kX.cell 1
      have xf := kX.free 1
      have xl := kX.lt
      simp at x1
      (try simp only [List.getElem_toArray, List.getElem_cons_succ, List.getElem_cons_zero])
      go_simp
      clear x1 xf xl
      replace hD := own_keptT hD (keptT_set kX 1 (.slice GD (log.length + 1) cD)) (by decide)
      replace kR := kR.other (p := ⟨bX, 1, none⟩) (by dsimp only; omega) (.slice GD (log.length + 1) cD)
      have st := (Stp.of_below bX hb).trans (Stp.set wl29 bX 1 (.slice GD (log.length + 1) cD))
      have kXn : Bk (wl29.setCell ⟨bX, 1, none⟩ (.slice GD (log.length + 1) cD)) bX 63 #[.int .i64 (at_ : Nat), .slice GD (log.length + 1) cD] := kX.stored 1 (.slice GD (log.length + 1) cD)
      refine hK.out _ _ kR (fun hS' => ?_)
      clear hS' hK K
      (try simp only [List.getElem_toArray, List.getElem_cons_succ, List.getElem_cons_zero, Act.put, List.setIfInBounds_toArray, List.set_cons_zero, List.set_cons_succ])
      refine wpAnyH_done (by kernel_rfl) ?_ _
      exact HK.out GD cD _ _ _ _ _ _ _ _ _ st kXn (logOwn hD)
  · rw [if_pos (by rfl)]
    refine wp_build1 (.tmp 200) had gok rfl rfl ?_
    have kC := Bk.made wl0 46 #[.int .i64 had, .bool gok]
    have zC0 : w.heap.size ≤ wl0.heap.size := hb.size
    replace kX := kX.alloc (.cells #[.int .i64 had, .bool gok] 46)
    replace kR := kR.alloc (.cells #[.int .i64 had, .bool gok] 46)
    replace hb := below_al hb (.cells #[.int .i64 had, .bool gok] 46)
    replace hres := World.ownsRow.alloc hres (.cells #[.int .i64 had, .bool gok] 46)
    refine hK.out _ _ kR (fun hS' => ?_)
    clear hS' hK K
    (try simp only [List.getElem_toArray, List.getElem_cons_succ, List.getElem_cons_zero, Act.put, List.setIfInBounds_toArray, List.set_cons_zero, List.set_cons_succ])
    generalize wl0.alloc (.cells #[.int .i64 had, .bool gok] 46) = wl31 at *
    generalize wl0.heap.size = gC at *
    refine wpAnyH_ready (rs := [0, 2]) (by kernel_rfl) (by simp) ?_
    refine (AllReadyH.cons (o := _) rfl (fun K hK => ?_) (AllReadyH.cons (o := _) rfl (fun K hK => ?_) AllReadyH.nil))
    · rw [if_pos (by rfl)]
      refine wp_build0 rfl ?_
      have hA := own_build0 wl31 w.heap.size hb.size
      have zA : w.heap.size ≤ wl31.heap.size := hb.size
      replace kX := kX.alloc (.cells #[] 46)
      replace kR := kR.alloc (.cells #[] 46)
      replace hres := World.ownsRow.alloc hres (.cells #[] 46)
      replace hb := below_al hb (.cells #[] 46)
      have zC := kC.lt
      replace kC := kC.alloc (.cells #[] 46)
      refine hK.out _ _ kR (fun hS' => ?_)
      clear hS' hK K
      (try simp only [List.getElem_toArray, List.getElem_cons_zero, Act.put, List.setIfInBounds_toArray, List.set_cons_zero, List.set_cons_succ])
      generalize wl31.alloc (.cells #[] 46) = wl32 at *
      generalize wl31.heap.size = gA at *
      refine wpAnyH_ready (rs := [2]) (by kernel_rfl) (by simp) ?_
      refine (AllReadyH.cons (o := _) rfl (fun K hK => ?_) AllReadyH.nil)
      have x1 := kX.cell 1
      simp at x1
      (try simp only [List.getElem_toArray, List.getElem_cons_succ, List.getElem_cons_zero])
      go_simp
      clear x1
      refine hK.out _ _ kR (fun hS' => ?_)
      clear hS' hK K
      (try simp only [List.getElem_toArray, List.getElem_cons_succ, List.getElem_cons_zero, Act.put, List.setIfInBounds_toArray, List.set_cons_zero, List.set_cons_succ])
      refine wpAnyH_ready (rs := [3]) (by kernel_rfl) (by simp) ?_
      refine (AllReadyH.cons (o := _) rfl (fun K hK => ?_) AllReadyH.nil)
      rw [if_pos (by rfl)]
      refine wp_append_log (.tmp 196) (.tmp 198) rfl w.heap.size _ rfl hA G cp log rfl hres (by omega) hb.size ?_
      intro vB wl34 hB hg
      have hk := keptT_grown hA hg
      replace kX := kX.keptT hk (by decide)
      replace kR := kR.grown hg (fun e => by have := (World.ownsRow.lt hA _ e.symm).1; omega)
      replace kC := kC.grown hg (fun e => by injection e with e; dsimp only at e; omega)
      replace hb := grown_below hb hA hg hb.size (Nat.le_refl _)
      clear hk hA hres hg
      refine hK.out _ _ kR (fun hS' => ?_)
      clear hS' hK K
      (try simp only [List.getElem_toArray, List.getElem_cons_succ, List.getElem_cons_zero, Act.put, List.setIfInBounds_toArray, List.set_cons_zero, List.set_cons_succ])
      refine wpAnyH_ready (rs := [6]) (by kernel_rfl) (by simp) ?_
      refine (AllReadyH.cons (o := _) rfl (fun K hK => ?_) AllReadyH.nil)
      rw [if_pos (by rfl)]
      refine wp_append_res1 (.tmp 199) (.tmp 201) rfl w.heap.size _ log.length (resCells log) rfl hB had gok gC 1 rfl kC (by omega) hb.size ?_
      intro vD wl35 hD hg
      have hk := keptT_grown hB hg
      replace kX := kX.keptT hk (by decide)
      replace kR := kR.grown hg (fun e => by have := (World.ownsRow.lt hB _ e.symm).1; omega)
      replace hb := grown_below hb hB hg hb.size (Nat.le_refl _)
      obtain ⟨GD, cD, rfl⟩ := own_slice hD
      clear hk hB hg kC
      refine hK.out _ _ kR (fun hS' => ?_)
      clear hS' hK K
      (try simp only [List.getElem_toArray, List.getElem_cons_succ, List.getElem_cons_zero, Act.put, List.setIfInBounds_toArray, List.set_cons_zero, List.set_cons_succ])
      refine wpAnyH_take (i := 7) (oi := _) (v := .pointer (some ⟨bX, 1, none⟩)) rfl (by kernel_rfl) (by kernel_rfl) (by kernel_rfl) (fun _ _ _ h => HQ.out _ _ _ _ _ h) (Or.inl ⟨by rfl, ?_⟩) kR ?_
      · intro w' hSw
        (try simp only [List.getElem_toArray, List.getElem_cons_succ, List.getElem_cons_zero])
        go_simp
      (try simp only [List.getElem_toArray, List.getElem_cons_succ, List.getElem_cons_zero, Act.put, List.setIfInBounds_toArray, List.set_cons_zero, List.set_cons_succ])
      refine wpAnyH_ready (rs := [8]) (by kernel_rfl) (by simp) ?_
      refine (AllReadyH.cons (o := _) rfl (fun K hK => ?_) AllReadyH.nil)
      have x1 := kX.cell 1
      have xf := kX.free 1
      have xl := kX.lt
      simp at x1
      (try simp only [List.getElem_toArray, List.getElem_cons_succ, List.getElem_cons_zero])
      go_simp
      clear x1 xf xl
      replace hD := own_keptT hD (keptT_set kX 1 (.slice GD (log.length + 1) cD)) (by decide)
      replace kR := kR.other (p := ⟨bX, 1, none⟩) (by dsimp only; omega) (.slice GD (log.length + 1) cD)
      have st := (Stp.of_below bX hb).trans (Stp.set wl35 bX 1 (.slice GD (log.length + 1) cD))
      have kXn : Bk (wl35.setCell ⟨bX, 1, none⟩ (.slice GD (log.length + 1) cD)) bX 63 #[.int .i64 (at_ : Nat), .slice GD (log.length + 1) cD] := kX.stored 1 (.slice GD (log.length + 1) cD)
      refine hK.out _ _ kR (fun hS' => ?_)
      clear hS' hK K
      (try simp only [List.getElem_toArray, List.getElem_cons_succ, List.getElem_cons_zero, Act.put, List.setIfInBounds_toArray, List.set_cons_zero, List.set_cons_succ])
      refine wpAnyH_done (by kernel_rfl) ?_ _
      exact HK.out GD cD _ _ _ _ _ _ _ _ _ st kXn (logOwn hD)
    · have x1 := kX.cell 1
      simp at x1
      (try simp only [List.getElem_toArray, List.getElem_cons_succ, List.getElem_cons_zero])
      go_simp
      clear x1
      refine hK.out _ _ kR (fun hS' => ?_)
      clear hS' hK K
      (try simp only [List.getElem_toArray, List.getElem_cons_succ, List.getElem_cons_zero, Act.put, List.setIfInBounds_toArray, List.set_cons_zero, List.set_cons_succ])
      refine wpAnyH_ready (rs := [0]) (by kernel_rfl) (by simp) ?_
      refine (AllReadyH.cons (o := _) rfl (fun K hK => ?_) AllReadyH.nil)
      rw [if_pos (by rfl)]
      refine wp_build0 rfl ?_
      have hA := own_build0 wl31 w.heap.size hb.size
      have zA : w.heap.size ≤ wl31.heap.size := hb.size
      replace kX := kX.alloc (.cells #[] 46)
      replace kR := kR.alloc (.cells #[] 46)
      replace hres := World.ownsRow.alloc hres (.cells #[] 46)
      replace hb := below_al hb (.cells #[] 46)
      have zC := kC.lt
      replace kC := kC.alloc (.cells #[] 46)
      refine hK.out _ _ kR (fun hS' => ?_)
      clear hS' hK K
      (try simp only [List.getElem_toArray, List.getElem_cons_zero, Act.put, List.setIfInBounds_toArray, List.set_cons_zero, List.set_cons_succ])
      generalize wl31.alloc (.cells #[] 46) = wl38 at *
      generalize wl31.heap.size = gA at *
      refine wpAnyH_ready (rs := [3]) (by kernel_rfl) (by simp) ?_
      refine (AllReadyH.cons (o := _) rfl (fun K hK => ?_) AllReadyH.nil)
      rw [if_pos (by rfl)]
      refine wp_append_log (.tmp 196) (.tmp 198) rfl w.heap.size _ rfl hA G cp log rfl hres (by omega) hb.size ?_
      intro vB wl39 hB hg
      have hk := keptT_grown hA hg
      replace kX := kX.keptT hk (by decide)
      replace kR := kR.grown hg (fun e => by have := (World.ownsRow.lt hA _ e.symm).1; omega)
      replace kC := kC.grown hg (fun e => by injection e with e; dsimp only at e; omega)
      replace hb := grown_below hb hA hg hb.size (Nat.le_refl _)
      clear hk hA hres hg
      refine hK.out _ _ kR (fun hS' => ?_)
      clear hS' hK K
      (try simp only [List.getElem_toArray, List.getElem_cons_succ, List.getElem_cons_zero, Act.put, List.setIfInBounds_toArray, List.set_cons_zero, List.set_cons_succ])
      refine wpAnyH_ready (rs := [6]) (by kernel_rfl) (by simp) ?_
      refine (AllReadyH.cons (o := _) rfl (fun K hK => ?_) AllReadyH.nil)
      rw [if_pos (by rfl)]
      refine wp_append_res1 (.tmp 199) (.tmp 201) rfl w.heap.size _ log.length (resCells log) rfl hB had gok gC 1 rfl kC (by omega) hb.size ?_
      intro vD wl40 hD hg
      have hk := keptT_grown hB hg
      replace kX := kX.keptT hk (by decide)
      replace kR := kR.grown hg (fun e => by have := (World.ownsRow.lt hB _ e.symm).1; omega)
      replace hb := grown_below hb hB hg hb.size (Nat.le_refl _)
      obtain ⟨GD, cD, rfl⟩ := own_slice hD
      clear hk hB hg kC
      refine hK.out _ _ kR (fun hS' => ?_)
      clear hS' hK K
      (try simp only [List.getElem_toArray, List.getElem_cons_succ, List.getElem_cons_zero, Act.put, List.setIfInBounds_toArray, List.set_cons_zero, List.set_cons_succ])
      refine wpAnyH_take (i := 7) (oi := _) (v := .pointer (some ⟨bX, 1, none⟩)) rfl (by kernel_rfl) (by kernel_rfl) (by kernel_rfl) (fun _ _ _ h => HQ.out _ _ _ _ _ h) (Or.inl ⟨by rfl, ?_⟩) kR ?_
      · intro w' hSw
        (try simp only [List.getElem_toArray, List.getElem_cons_succ, List.getElem_cons_zero])
        go_simp
      (try simp only [List.getElem_toArray, List.getElem_cons_succ, List.getElem_cons_zero, Act.put, List.setIfInBounds_toArray, List.set_cons_zero, List.set_cons_succ])
      refine wpAnyH_ready (rs := [8]) (by kernel_rfl) (by simp) ?_
      refine (AllReadyH.cons (o := _) rfl (fun K hK => ?_) AllReadyH.nil)
      have x1 := kX.cell 1
      have xf := kX.free 1
      have xl := kX.lt
      simp at x1
      (try simp only [List.getElem_toArray, List.getElem_cons_succ, List.getElem_cons_zero])
      go_simp
      clear x1 xf xl
      replace hD := own_keptT hD (keptT_set kX 1 (.slice GD (log.length + 1) cD)) (by decide)
      replace kR := kR.other (p := ⟨bX, 1, none⟩) (by dsimp only; omega) (.slice GD (log.length + 1) cD)
      have st := (Stp.of_below bX hb).trans (Stp.set wl40 bX 1 (.slice GD (log.length + 1) cD))
      have kXn : Bk (wl40.setCell ⟨bX, 1, none⟩ (.slice GD (log.length + 1) cD)) bX 63 #[.int .i64 (at_ : Nat), .slice GD (log.length + 1) cD] := kX.stored 1 (.slice GD (log.length + 1) cD)
      refine hK.out _ _ kR (fun hS' => ?_)
      clear hS' hK K
      (try simp only [List.getElem_toArray, List.getElem_cons_succ, List.getElem_cons_zero, Act.put, List.setIfInBounds_toArray, List.set_cons_zero, List.set_cons_succ])
      refine wpAnyH_done (by kernel_rfl) ?_ _
      exact HK.out GD cD _ _ _ _ _ _ _ _ _ st kXn (logOwn hD)
end Go.Proofs.Ytcjaomiihajjbaa
