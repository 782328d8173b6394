/- TaskClaims' region that makes a task ready. Printed by reg20_gen.py. -/
import Derived.Test.YtcjaomiihajjbaaClaimR
import Derived.Test.YtcjaomiihajjbaaPlayN
namespace Go.Proofs.Ytcjaomiihajjbaa
open Go.RowKit
set_option linter.unusedVariables false
attribute [local go_sem ↓] Go.wp_at_zero Go.wp_at_succ

noncomputable def reg20C : Code := ((Try.f4.body.bind (findR 20)).getD .skip)
set_option maxRecDepth 1000000 in
set_option maxHeartbeats 8000000 in
theorem reg20 {K : Act → World → Prop} {Q : Exit → Act → World → Prop} (u0 u1 u2 u3 u4 u5 u6 u7 u8 u9 u10 u11 u13 u16 u17 u18 u19 u20 u21 u22 u23 u24 u25 u26 u27 u28 u29 u30 u31 u32 u33 u34 u35 u36 u37 u38 u39 u40 u41 u42 u43 u44 u45 u46 u47 u48 u49 u50 u51 u52 u53 u54 u55 u56 u57 u58 u59 u60 u61 u62 u63 u64 u65 u66 u67 u68 u69 u70 u71 u72 u73 u74 u75 u76 u77 u78 u79 u80 u81 u82 u83 u84 u85 u86 u87 u88 u89 u90 u91 u92 u93 u94 u95 u96 u97 u98 u99 u100 u101 u102 u103 u104 u105 u106 u107 u108 u109 u110 u111 u112 u113 u114 u115 u116 u117 u118 u119 u120 u121 u122 u123 u124 u125 u126 u127 u128 u129 u130 u131 u132 u133 u134 u135 u136 u137 u138 u139 u140 u141 u142 u143 u144 u145 u146 u147 u148 u149 u150 u151 u152 u153 u154 u155 u156 u157 u158 u159 u160 u161 u162 u163 u164 u165 u166 u167 u168 u169 u170 u171 u172 u173 u174 u175 u176 u177 u178 u179 u180 u181 u182 u183 u184 u185 u186 u187 u188 u189 u190 u191 u192 u193 u194 u195 u196 u197 u198 u199 u200 u201 u202 u203 u204 u205 u206 u207 u208 u209 u210 u211 u212 u213 u214 u215 u216 u217 u218 u219 u220 u221 u222 u223 u224 u225 u226 u227 u228 u229 u230 u231 u232 u233 : Value) (w : World) (bL b14 : Nat) (t : Int) (l : Ly) (g cap : Nat) (zs : List Int) (hQ : ∀ c (a : Act) (dst : Tmp) v w, Q (.panic c) (a.put (some dst) v) w → Q (.panic c) a w)
    (f : TkFit l) (ht : t ≤ 1000) (hzl : zs.length ≤ 1000) (he : (⟨2, taskAt l t 0, 0, 1⟩ : Acc).err zs.length = 0) (kL : Bk w bL 34 (lyC l)) (kM : Bk w b14 39 #[.slice (some ⟨g, 0, none⟩) zs.length cap]) (hom : OwnInts w 0 (.slice (some ⟨g, 0, none⟩) zs.length cap) zs)
    (hK : ∀ (x17 x18 x90 x91 x92 x93 x94 x95 x96 x97 x98 x99 : Value) (b16 g2 cap2 : Nat) (wx : World), Below w.heap.size w wx → Bk wx b16 39 #[.slice (some ⟨g2, 0, none⟩) zs.length cap2] → OwnInts wx 0 (.slice (some ⟨g2, 0, none⟩) zs.length cap2) ((⟨2, taskAt l t 0, 0, 1⟩ : Acc).make zs) → K ⟨#[u0, u1, u2, u3, u4, u5, u6, u7, u8, u9, u10, u11, (ptr bL), u13, (ptr b14), (.int .i64 t), (ptr b16), x17, x18, u19, u20, u21, u22, u23, u24, u25, u26, u27, u28, u29, u30, u31, u32, u33, u34, u35, u36, u37, u38, u39, u40, u41, u42, u43, u44, u45, u46, u47, u48, u49, u50, u51, u52, u53, u54, u55, u56, u57, u58, u59, u60, u61, u62, u63, u64, u65, u66, u67, u68, u69, u70, u71, u72, u73, u74, u75, u76, u77, u78, u79, u80, u81, u82, u83, u84, u85, u86, u87, u88, u89, x90, x91, x92, x93, x94, x95, x96, x97, x98, x99, u100, u101, u102, u103, u104, u105, u106, u107, u108, u109, u110, u111, u112, u113, u114, u115, u116, u117, u118, u119, u120, u121, u122, u123, u124, u125, u126, u127, u128, u129, u130, u131, u132, u133, u134, u135, u136, u137, u138, u139, u140, u141, u142, u143, u144, u145, u146, u147, u148, u149, u150, u151, u152, u153, u154, u155, u156, u157, u158, u159, u160, u161, u162, u163, u164, u165, u166, u167, u168, u169, u170, u171, u172, u173, u174, u175, u176, u177, u178, u179, u180, u181, u182, u183, u184, u185, u186, u187, u188, u189, u190, u191, u192, u193, u194, u195, u196, u197, u198, u199, u200, u201, u202, u203, u204, u205, u206, u207, u208, u209, u210, u211, u212, u213, u214, u215, u216, u217, u218, u219, u220, u221, u222, u223, u224, u225, u226, u227, u228, u229, u230, u231, u232, u233], []⟩ wx) :
    Code.wp Try.prog reg20C (Exit.then K Q) ⟨#[u0, u1, u2, u3, u4, u5, u6, u7, u8, u9, u10, u11, (ptr bL), u13, (ptr b14), (.int .i64 t), u16, u17, u18, u19, u20, u21, u22, u23, u24, u25, u26, u27, u28, u29, u30, u31, u32, u33, u34, u35, u36, u37, u38, u39, u40, u41, u42, u43, u44, u45, u46, u47, u48, u49, u50, u51, u52, u53, u54, u55, u56, u57, u58, u59, u60, u61, u62, u63, u64, u65, u66, u67, u68, u69, u70, u71, u72, u73, u74, u75, u76, u77, u78, u79, u80, u81, u82, u83, u84, u85, u86, u87, u88, u89, u90, u91, u92, u93, u94, u95, u96, u97, u98, u99, u100, u101, u102, u103, u104, u105, u106, u107, u108, u109, u110, u111, u112, u113, u114, u115, u116, u117, u118, u119, u120, u121, u122, u123, u124, u125, u126, u127, u128, u129, u130, u131, u132, u133, u134, u135, u136, u137, u138, u139, u140, u141, u142, u143, u144, u145, u146, u147, u148, u149, u150, u151, u152, u153, u154, u155, u156, u157, u158, u159, u160, u161, u162, u163, u164, u165, u166, u167, u168, u169, u170, u171, u172, u173, u174, u175, u176, u177, u178, u179, u180, u181, u182, u183, u184, u185, u186, u187, u188, u189, u190, u191, u192, u193, u194, u195, u196, u197, u198, u199, u200, u201, u202, u203, u204, u205, u206, u207, u208, u209, u210, u211, u212, u213, u214, u215, u216, u217, u218, u219, u220, u221, u222, u223, u224, u225, u226, u227, u228, u229, u230, u231, u232, u233], []⟩ w := by
  dsimp only at hK ⊢
  have HK := Lib.hid hK
  have HQ := Lib.hid hQ
  have HE := Lib.hid he
  have HF := Lib.hid f
  clear hK hQ he f
  conv => arg 2; whnf
  refine wp_region_held_drew (S := fun w' => Bk w' b14 39 #[.slice (some ⟨g, 0, none⟩) zs.length cap] ∧ Bk w' bL 34 (lyC l)) (by kernel_rfl) ⟨kM.drew, kL.drew⟩ (fun hHeld => ?_)
  clear hHeld
  have hb := below_drew (Below.refl w.heap.size w)
  replace kM := kM.drew
  replace kL := kL.drew
  replace hom := own_drew hom
  generalize w.drew = wl0 at *
  refine wpAnyH_take (i := 0) (oi := _) (v := .agg #[.slice (some ⟨g, 0, none⟩) zs.length cap]) rfl (by kernel_rfl) (by kernel_rfl) (by kernel_rfl) (fun _ _ _ h => HQ.out _ _ _ _ _ h) (Or.inl ⟨by rfl, ?_⟩) ⟨kM, kL⟩ ?_
  · intro w' hSw
    have s1 := hSw.1.cell 0
    simp at s1
    (try simp only [List.getElem_toArray, List.getElem_cons_zero])
    go_simp
  (try simp only [List.getElem_toArray, List.getElem_cons_zero, Act.put, List.setIfInBounds_toArray, List.set_cons_zero, List.set_cons_succ])
  refine wpAnyH_take (i := 1) (oi := _) (v := .agg (lyC l)) rfl (by kernel_rfl) (by kernel_rfl) (by kernel_rfl) (fun _ _ _ h => HQ.out _ _ _ _ _ h) (Or.inl ⟨by rfl, ?_⟩) ⟨kM, kL⟩ ?_
  · intro w' hSw
    (try simp only [List.getElem_toArray, List.getElem_cons_succ, List.getElem_cons_zero])
    simp only [execOp, Instr.loadAt, Instr.sureAddr, Sem.run_bind, Sem.run_pure]
    rw [show (Act.eval _ (Operand.tmp 12)) = Value.pointer (some ⟨bL, 0, none⟩) from rfl]
    simp only [Sem.run_pure, Result.andThen_ok, run_loadVar_row w' bL 34 34 (lyC l) (0, 0) _ hSw.2 Try.underlying34 rfl (by kernel_rfl)]
  (try simp only [List.getElem_toArray, List.getElem_cons_succ, List.getElem_cons_zero, Act.put, List.setIfInBounds_toArray, List.set_cons_zero, List.set_cons_succ])
  refine wpAnyH_take (i := 2) (oi := _) (v := .int .i64 t) rfl (by kernel_rfl) (by kernel_rfl) (by kernel_rfl) (fun _ _ _ h => HQ.out _ _ _ _ _ h) (Or.inl ⟨by rfl, ?_⟩) ⟨kM, kL⟩ ?_
  · intro w' hSw
    (try simp only [List.getElem_toArray, List.getElem_cons_succ, List.getElem_cons_zero])
    go_simp
  (try simp only [List.getElem_toArray, List.getElem_cons_succ, List.getElem_cons_zero, Act.put, List.setIfInBounds_toArray, List.set_cons_zero, List.set_cons_succ])
  refine wpAnyH_ready (rs := [3, 10, 11]) (by kernel_rfl) (by simp) ?_
  refine (AllReadyH.cons (o := _) rfl (fun K hK => ?_) (AllReadyH.cons (o := _) rfl (fun K hK => ?_) (AllReadyH.cons (o := _) rfl (fun K hK => ?_) AllReadyH.nil)))
  · (try simp only [List.getElem_toArray, List.getElem_cons_succ, List.getElem_cons_zero])
    go_simp
    (with_reducible refine (task_any l t 0 _ HF.out (by omega)).mono ?_)
    rintro e wl1 ⟨rfl, hb'⟩
    replace kM := kM.keep hb'
    replace kL := kL.keep hb'
    replace hom : OwnInts wl1 0 (.slice (some ⟨g, 0, none⟩) zs.length cap) zs := own_keepb hom hb'
    replace hb := below_tr hb hb'
    clear hb'
    refine hK.out _ _ ⟨kM, kL⟩ (fun hS' => ?_)
    clear hS' hK K
    (try simp only [List.getElem_toArray, List.getElem_cons_succ, List.getElem_cons_zero, Act.put, List.setIfInBounds_toArray, List.set_cons_zero, List.set_cons_succ])
    refine wpAnyH_take (i := 4) (oi := _) (v := .agg #[.int .i64 2, .int .i64 (taskAt l t 0), .int .i64 0, .int .i64 1]) rfl (by kernel_rfl) (by kernel_rfl) (by kernel_rfl) (fun _ _ _ h => HQ.out _ _ _ _ _ h) (Or.inl ⟨by rfl, ?_⟩) ⟨kM, kL⟩ ?_
    · intro w' hSw
      (try simp only [List.getElem_toArray, List.getElem_cons_succ, List.getElem_cons_zero])
      go_simp
    (try simp only [List.getElem_toArray, List.getElem_cons_succ, List.getElem_cons_zero, Act.put, List.setIfInBounds_toArray, List.set_cons_zero, List.set_cons_succ])
    refine wpAnyH_ready (rs := [5, 10, 11]) (by kernel_rfl) (by simp) ?_
    refine (AllReadyH.cons (o := _) rfl (fun K hK => ?_) (AllReadyH.cons (o := _) rfl (fun K hK => ?_) (AllReadyH.cons (o := _) rfl (fun K hK => ?_) AllReadyH.nil)))
    · (try simp only [List.getElem_toArray, List.getElem_cons_succ, List.getElem_cons_zero])
      go_simp
      have hsl := own_sl hom rfl
      (with_reducible refine (do_ok (some ⟨g, 0, none⟩) cap zs ⟨2, taskAt l t 0, 0, 1⟩ _ hsl (by omega) HE.out).mono ?_)
      rintro e wl2 ⟨g2, cap2, rfl, hown2, hb'⟩
      replace kM := kM.keep hb'
      replace kL := kL.keep hb'
      replace hown2 : OwnInts wl2 0 (.slice (some ⟨g2, 0, none⟩) zs.length cap2) ((⟨2, taskAt l t 0, 0, 1⟩ : Acc).make zs) := own_lower hown2 (Nat.zero_le _)
      replace hb := below_tr hb hb'
      clear hb' hsl hom
      obtain ⟨had, hhad⟩ : ∃ z, (⟨2, taskAt l t 0, 0, 1⟩ : Acc).had zs = z := ⟨_, rfl⟩
      obtain ⟨gok, hgok⟩ : ∃ z, (⟨2, taskAt l t 0, 0, 1⟩ : Acc).ok had = z := ⟨_, rfl⟩
      rw [hhad, hgok]
      clear hhad hgok
      refine hK.out _ _ ⟨kM, kL⟩ (fun hS' => ?_)
      clear hS' hK K
      (try simp only [List.getElem_toArray, List.getElem_cons_succ, List.getElem_cons_zero, Act.put, List.setIfInBounds_toArray, List.set_cons_zero, List.set_cons_succ])
      refine wpAnyH_take (i := 6) (oi := _) (v := .tuple #[memV (some ⟨g2, 0, none⟩) zs.length cap2, resV had gok, .int .i64 0]) rfl (by kernel_rfl) (by kernel_rfl) (by kernel_rfl) (fun _ _ _ h => HQ.out _ _ _ _ _ h) (Or.inl ⟨by rfl, ?_⟩) ⟨kM, kL⟩ ?_
      · intro w' hSw
        (try simp only [List.getElem_toArray, List.getElem_cons_succ, List.getElem_cons_zero])
        go_simp
      (try simp only [List.getElem_toArray, List.getElem_cons_succ, List.getElem_cons_zero, Act.put, List.setIfInBounds_toArray, List.set_cons_zero, List.set_cons_succ])
      refine wpAnyH_take (i := 7) (oi := _) (v := memV (some ⟨g2, 0, none⟩) zs.length cap2) rfl (by kernel_rfl) (by kernel_rfl) (by kernel_rfl) (fun _ _ _ h => HQ.out _ _ _ _ _ h) (Or.inl ⟨by rfl, ?_⟩) ⟨kM, kL⟩ ?_
      · intro w' hSw
        (try simp only [List.getElem_toArray, List.getElem_cons_succ, List.getElem_cons_zero])
        go_simp
      (try simp only [List.getElem_toArray, List.getElem_cons_succ, List.getElem_cons_zero, Act.put, List.setIfInBounds_toArray, List.set_cons_zero, List.set_cons_succ])
      refine wpAnyH_take (i := 8) (oi := _) (v := resV had gok) rfl (by kernel_rfl) (by kernel_rfl) (by kernel_rfl) (fun _ _ _ h => HQ.out _ _ _ _ _ h) (Or.inl ⟨by rfl, ?_⟩) ⟨kM, kL⟩ ?_
      · intro w' hSw
        (try simp only [List.getElem_toArray, List.getElem_cons_succ, List.getElem_cons_zero])
        go_simp
      (try simp only [List.getElem_toArray, List.getElem_cons_succ, List.getElem_cons_zero, Act.put, List.setIfInBounds_toArray, List.set_cons_zero, List.set_cons_succ])
      refine wpAnyH_take (i := 9) (oi := _) (v := .int .i64 0) rfl (by kernel_rfl) (by kernel_rfl) (by kernel_rfl) (fun _ _ _ h => HQ.out _ _ _ _ _ h) (Or.inl ⟨by rfl, ?_⟩) ⟨kM, kL⟩ ?_
      · intro w' hSw
        (try simp only [List.getElem_toArray, List.getElem_cons_succ, List.getElem_cons_zero])
        go_simp
      (try simp only [List.getElem_toArray, List.getElem_cons_succ, List.getElem_cons_zero, Act.put, List.setIfInBounds_toArray, List.set_cons_zero, List.set_cons_succ])
      refine wpAnyH_ready (rs := [10, 11]) (by kernel_rfl) (by simp) ?_
      refine (AllReadyH.cons (o := _) rfl (fun K hK => ?_) (AllReadyH.cons (o := _) rfl (fun K hK => ?_) AllReadyH.nil))
      · (try simp only [List.getElem_toArray, List.getElem_cons_succ, List.getElem_cons_zero])
        go_simp
        have kN := Bk.made wl2 39 #[.slice none 0 0]
        have zbM : w.heap.size ≤ wl2.heap.size := hb.size
        have zmbM := kM.lt
        have zlbM := kL.lt
        replace kM := kM.alloc (.cells #[.slice none 0 0] 39)
        replace kL := kL.alloc (.cells #[.slice none 0 0] 39)
        replace hb := below_al hb (.cells #[.slice none 0 0] 39)
        replace hown2 := hown2.alloc (.cells #[.slice none 0 0] 39)
        refine hK.out _ _ ⟨kM, kL⟩ (fun hS' => ?_)
        clear hS' hK K
        (try simp only [List.getElem_toArray, List.getElem_cons_succ, List.getElem_cons_zero, Act.put, List.setIfInBounds_toArray, List.set_cons_zero, List.set_cons_succ])
        generalize wl2.alloc (.cells #[.slice none 0 0] 39) = wl3 at *
        generalize wl2.heap.size = bM at *
        refine wpAnyH_ready (rs := [11]) (by kernel_rfl) (by simp) ?_
        refine (AllReadyH.cons (o := _) rfl (fun K hK => ?_) AllReadyH.nil)
        (try simp only [List.getElem_toArray, List.getElem_cons_succ, List.getElem_cons_zero])
        go_simp
        have kR := Bk.made wl3 46 #[.int .i64 0, .bool false]
        have zbR : w.heap.size ≤ wl3.heap.size := hb.size
        have zmbR := kM.lt
        have zlbR := kL.lt
        have zr := kN.lt
        replace kN := kN.alloc (.cells #[.int .i64 0, .bool false] 46)
        replace kM := kM.alloc (.cells #[.int .i64 0, .bool false] 46)
        replace kL := kL.alloc (.cells #[.int .i64 0, .bool false] 46)
        replace hb := below_al hb (.cells #[.int .i64 0, .bool false] 46)
        replace hown2 := hown2.alloc (.cells #[.int .i64 0, .bool false] 46)
        refine hK.out _ _ ⟨kM, kL⟩ (fun hS' => ?_)
        clear hS' hK K
        (try simp only [List.getElem_toArray, List.getElem_cons_succ, List.getElem_cons_zero, Act.put, List.setIfInBounds_toArray, List.set_cons_zero, List.set_cons_succ])
        generalize wl3.alloc (.cells #[.int .i64 0, .bool false] 46) = wl4 at *
        generalize wl3.heap.size = bR at *
        have q1 := kN.cell 0
        have f1 := kN.free 0
        have l1 := kN.lt
        simp at q1
        refine wpAnyH_ready (rs := [12]) (by kernel_rfl) (by simp) ?_
        refine AllReadyH.cons (o := _) rfl (fun K hK => ?_) AllReadyH.nil
        (try simp only [List.getElem_toArray, List.getElem_cons_succ, List.getElem_cons_zero])
        go_simp
        clear q1 f1 l1
        have kN2 : Bk (wl4.setCell ⟨bM, 0, none⟩ (.slice (some ⟨g2, 0, none⟩) zs.length cap2)) bM 39 #[.slice (some ⟨g2, 0, none⟩) zs.length cap2] := kN.stored 0 _
        replace hown2 := hown2.far (p := ⟨bM, 0, none⟩) (own_ne hown2 kN (by decide)) (.slice (some ⟨g2, 0, none⟩) zs.length cap2)
        replace kM := kM.other (p := ⟨bM, 0, none⟩) (by dsimp only; omega) (.slice (some ⟨g2, 0, none⟩) zs.length cap2)
        replace kL := kL.other (p := ⟨bM, 0, none⟩) (by dsimp only; omega) (.slice (some ⟨g2, 0, none⟩) zs.length cap2)
        replace kR := kR.other (p := ⟨bM, 0, none⟩) (by dsimp only; omega) (.slice (some ⟨g2, 0, none⟩) zs.length cap2)
        replace hb := below_set hb (p := ⟨bM, 0, none⟩) (by dsimp only; omega) (.slice (some ⟨g2, 0, none⟩) zs.length cap2)
        refine hK.out _ _ ⟨kM, kL⟩ (fun hS' => ?_)
        clear hS' hK K
        (try simp only [List.getElem_toArray, List.getElem_cons_succ, List.getElem_cons_zero, Act.put, List.setIfInBounds_toArray, List.set_cons_zero, List.set_cons_succ])
        generalize wl4.setCell ⟨bM, 0, none⟩ (.slice (some ⟨g2, 0, none⟩) zs.length cap2) = ws1 at *
        have q1 := kR.cell 0
        have q2 := kR.cell 1
        have f1 := kR.free 0
        have f2 := kR.free 1
        have l1 := kR.lt
        simp at q1 q2
        refine wpAnyH_ready (rs := [13]) (by kernel_rfl) (by simp) ?_
        refine AllReadyH.cons (o := _) rfl (fun K hK => ?_) AllReadyH.nil
        (try simp only [List.getElem_toArray, List.getElem_cons_succ, List.getElem_cons_zero])
        go_simp
        clear q1 q2 f1 f2 l1
        replace hown2 := (hown2.far (p := ⟨bR, 0, none⟩) (own_ne hown2 kR (by decide)) (.int .i64 had)).far (p := ⟨bR, 1, none⟩) (own_ne hown2 kR (by decide)) (.bool gok)
        replace kN2 := (kN2.other (p := ⟨bR, 0, none⟩) (by dsimp only; omega) (.int .i64 had)).other (p := ⟨bR, 1, none⟩) (by dsimp only; omega) (.bool gok)
        replace kM := (kM.other (p := ⟨bR, 0, none⟩) (by dsimp only; omega) (.int .i64 had)).other (p := ⟨bR, 1, none⟩) (by dsimp only; omega) (.bool gok)
        replace kL := (kL.other (p := ⟨bR, 0, none⟩) (by dsimp only; omega) (.int .i64 had)).other (p := ⟨bR, 1, none⟩) (by dsimp only; omega) (.bool gok)
        replace hb := below_set (below_set hb (p := ⟨bR, 0, none⟩) (by dsimp only; omega) (.int .i64 had)) (p := ⟨bR, 1, none⟩) (by dsimp only; omega) (.bool gok)
        refine hK.out _ _ ⟨kM, kL⟩ (fun hS' => ?_)
        clear hS' hK K
        (try simp only [List.getElem_toArray, List.getElem_cons_succ, List.getElem_cons_zero, Act.put, List.setIfInBounds_toArray, List.set_cons_zero, List.set_cons_succ])
        refine wpAnyH_take (i := 14) (oi := _) (v := .int .i64 0) rfl (by kernel_rfl) (by kernel_rfl) (by kernel_rfl) (fun _ _ _ h => HQ.out _ _ _ _ _ h) (Or.inl ⟨by rfl, ?_⟩) ⟨kM, kL⟩ ?_
        · intro w' hSw
          (try simp only [List.getElem_toArray, List.getElem_cons_succ, List.getElem_cons_zero])
          go_simp
        (try simp only [List.getElem_toArray, List.getElem_cons_succ, List.getElem_cons_zero, Act.put, List.setIfInBounds_toArray, List.set_cons_zero, List.set_cons_succ])
        refine wpAnyH_done (by kernel_rfl) ?_ _
        exact HK.out _ _ _ _ _ _ _ _ _ _ _ _ bM g2 cap2 _ hb kN2 hown2
      · (try simp only [List.getElem_toArray, List.getElem_cons_succ, List.getElem_cons_zero])
        go_simp
        have kR := Bk.made wl2 46 #[.int .i64 0, .bool false]
        have zbR : w.heap.size ≤ wl2.heap.size := hb.size
        have zmbR := kM.lt
        have zlbR := kL.lt
        replace kM := kM.alloc (.cells #[.int .i64 0, .bool false] 46)
        replace kL := kL.alloc (.cells #[.int .i64 0, .bool false] 46)
        replace hb := below_al hb (.cells #[.int .i64 0, .bool false] 46)
        replace hown2 := hown2.alloc (.cells #[.int .i64 0, .bool false] 46)
        refine hK.out _ _ ⟨kM, kL⟩ (fun hS' => ?_)
        clear hS' hK K
        (try simp only [List.getElem_toArray, List.getElem_cons_succ, List.getElem_cons_zero, Act.put, List.setIfInBounds_toArray, List.set_cons_zero, List.set_cons_succ])
        generalize wl2.alloc (.cells #[.int .i64 0, .bool false] 46) = wl5 at *
        generalize wl2.heap.size = bR at *
        refine wpAnyH_ready (rs := [10]) (by kernel_rfl) (by simp) ?_
        refine (AllReadyH.cons (o := _) rfl (fun K hK => ?_) AllReadyH.nil)
        (try simp only [List.getElem_toArray, List.getElem_cons_succ, List.getElem_cons_zero])
        go_simp
        have kN := Bk.made wl5 39 #[.slice none 0 0]
        have zbM : w.heap.size ≤ wl5.heap.size := hb.size
        have zmbM := kM.lt
        have zlbM := kL.lt
        have zr := kR.lt
        replace kR := kR.alloc (.cells #[.slice none 0 0] 39)
        replace kM := kM.alloc (.cells #[.slice none 0 0] 39)
        replace kL := kL.alloc (.cells #[.slice none 0 0] 39)
        replace hb := below_al hb (.cells #[.slice none 0 0] 39)
        replace hown2 := hown2.alloc (.cells #[.slice none 0 0] 39)
        refine hK.out _ _ ⟨kM, kL⟩ (fun hS' => ?_)
        clear hS' hK K
        (try simp only [List.getElem_toArray, List.getElem_cons_succ, List.getElem_cons_zero, Act.put, List.setIfInBounds_toArray, List.set_cons_zero, List.set_cons_succ])
        generalize wl5.alloc (.cells #[.slice none 0 0] 39) = wl6 at *
        generalize wl5.heap.size = bM at *
        have q1 := kN.cell 0
        have f1 := kN.free 0
        have l1 := kN.lt
        simp at q1
        refine wpAnyH_ready (rs := [12]) (by kernel_rfl) (by simp) ?_
        refine AllReadyH.cons (o := _) rfl (fun K hK => ?_) AllReadyH.nil
        (try simp only [List.getElem_toArray, List.getElem_cons_succ, List.getElem_cons_zero])
        go_simp
        clear q1 f1 l1
        have kN2 : Bk (wl6.setCell ⟨bM, 0, none⟩ (.slice (some ⟨g2, 0, none⟩) zs.length cap2)) bM 39 #[.slice (some ⟨g2, 0, none⟩) zs.length cap2] := kN.stored 0 _
        replace hown2 := hown2.far (p := ⟨bM, 0, none⟩) (own_ne hown2 kN (by decide)) (.slice (some ⟨g2, 0, none⟩) zs.length cap2)
        replace kM := kM.other (p := ⟨bM, 0, none⟩) (by dsimp only; omega) (.slice (some ⟨g2, 0, none⟩) zs.length cap2)
        replace kL := kL.other (p := ⟨bM, 0, none⟩) (by dsimp only; omega) (.slice (some ⟨g2, 0, none⟩) zs.length cap2)
        replace kR := kR.other (p := ⟨bM, 0, none⟩) (by dsimp only; omega) (.slice (some ⟨g2, 0, none⟩) zs.length cap2)
        replace hb := below_set hb (p := ⟨bM, 0, none⟩) (by dsimp only; omega) (.slice (some ⟨g2, 0, none⟩) zs.length cap2)
        refine hK.out _ _ ⟨kM, kL⟩ (fun hS' => ?_)
        clear hS' hK K
        (try simp only [List.getElem_toArray, List.getElem_cons_succ, List.getElem_cons_zero, Act.put, List.setIfInBounds_toArray, List.set_cons_zero, List.set_cons_succ])
        generalize wl6.setCell ⟨bM, 0, none⟩ (.slice (some ⟨g2, 0, none⟩) zs.length cap2) = ws1 at *
        have q1 := kR.cell 0
        have q2 := kR.cell 1
        have f1 := kR.free 0
        have f2 := kR.free 1
        have l1 := kR.lt
        simp at q1 q2
        refine wpAnyH_ready (rs := [13]) (by kernel_rfl) (by simp) ?_
        refine AllReadyH.cons (o := _) rfl (fun K hK => ?_) AllReadyH.nil
        (try simp only [List.getElem_toArray, List.getElem_cons_succ, List.getElem_cons_zero])
        go_simp
        clear q1 q2 f1 f2 l1
        replace hown2 := (hown2.far (p := ⟨bR, 0, none⟩) (own_ne hown2 kR (by decide)) (.int .i64 had)).far (p := ⟨bR, 1, none⟩) (own_ne hown2 kR (by decide)) (.bool gok)
        replace kN2 := (kN2.other (p := ⟨bR, 0, none⟩) (by dsimp only; omega) (.int .i64 had)).other (p := ⟨bR, 1, none⟩) (by dsimp only; omega) (.bool gok)
        replace kM := (kM.other (p := ⟨bR, 0, none⟩) (by dsimp only; omega) (.int .i64 had)).other (p := ⟨bR, 1, none⟩) (by dsimp only; omega) (.bool gok)
        replace kL := (kL.other (p := ⟨bR, 0, none⟩) (by dsimp only; omega) (.int .i64 had)).other (p := ⟨bR, 1, none⟩) (by dsimp only; omega) (.bool gok)
        replace hb := below_set (below_set hb (p := ⟨bR, 0, none⟩) (by dsimp only; omega) (.int .i64 had)) (p := ⟨bR, 1, none⟩) (by dsimp only; omega) (.bool gok)
        refine hK.out _ _ ⟨kM, kL⟩ (fun hS' => ?_)
        clear hS' hK K
        (try simp only [List.getElem_toArray, List.getElem_cons_succ, List.getElem_cons_zero, Act.put, List.setIfInBounds_toArray, List.set_cons_zero, List.set_cons_succ])
        refine wpAnyH_take (i := 14) (oi := _) (v := .int .i64 0) rfl (by kernel_rfl) (by kernel_rfl) (by kernel_rfl) (fun _ _ _ h => HQ.out _ _ _ _ _ h) (Or.inl ⟨by rfl, ?_⟩) ⟨kM, kL⟩ ?_
        · intro w' hSw
          (try simp only [List.getElem_toArray, List.getElem_cons_succ, List.getElem_cons_zero])
          go_simp
        (try simp only [List.getElem_toArray, List.getElem_cons_succ, List.getElem_cons_zero, Act.put, List.setIfInBounds_toArray, List.set_cons_zero, List.set_cons_succ])
        refine wpAnyH_done (by kernel_rfl) ?_ _
        exact HK.out _ _ _ _ _ _ _ _ _ _ _ _ bM g2 cap2 _ hb kN2 hown2
    · (try simp only [List.getElem_toArray, List.getElem_cons_succ, List.getElem_cons_zero])
      go_simp
      have kN := Bk.made wl1 39 #[.slice none 0 0]
      have zbM : w.heap.size ≤ wl1.heap.size := hb.size
      have zmbM := kM.lt
      have zlbM := kL.lt
      replace kM := kM.alloc (.cells #[.slice none 0 0] 39)
      replace kL := kL.alloc (.cells #[.slice none 0 0] 39)
      replace hb := below_al hb (.cells #[.slice none 0 0] 39)
      replace hom := hom.alloc (.cells #[.slice none 0 0] 39)
      refine hK.out _ _ ⟨kM, kL⟩ (fun hS' => ?_)
      clear hS' hK K
      (try simp only [List.getElem_toArray, List.getElem_cons_succ, List.getElem_cons_zero, Act.put, List.setIfInBounds_toArray, List.set_cons_zero, List.set_cons_succ])
      generalize wl1.alloc (.cells #[.slice none 0 0] 39) = wl7 at *
      generalize wl1.heap.size = bM at *
      refine wpAnyH_ready (rs := [5, 11]) (by kernel_rfl) (by simp) ?_
      refine (AllReadyH.cons (o := _) rfl (fun K hK => ?_) (AllReadyH.cons (o := _) rfl (fun K hK => ?_) AllReadyH.nil))
      · (try simp only [List.getElem_toArray, List.getElem_cons_succ, List.getElem_cons_zero])
        go_simp
        have hsl := own_sl hom rfl
        (with_reducible refine (do_ok (some ⟨g, 0, none⟩) cap zs ⟨2, taskAt l t 0, 0, 1⟩ _ hsl (by omega) HE.out).mono ?_)
        rintro e wl8 ⟨g2, cap2, rfl, hown2, hb'⟩
        replace kM := kM.keep hb'
        replace kL := kL.keep hb'
        replace hown2 : OwnInts wl8 0 (.slice (some ⟨g2, 0, none⟩) zs.length cap2) ((⟨2, taskAt l t 0, 0, 1⟩ : Acc).make zs) := own_lower hown2 (Nat.zero_le _)
        replace kN := kN.keep hb'
        replace hb := below_tr hb hb'
        clear hb' hsl hom
        obtain ⟨had, hhad⟩ : ∃ z, (⟨2, taskAt l t 0, 0, 1⟩ : Acc).had zs = z := ⟨_, rfl⟩
        obtain ⟨gok, hgok⟩ : ∃ z, (⟨2, taskAt l t 0, 0, 1⟩ : Acc).ok had = z := ⟨_, rfl⟩
        rw [hhad, hgok]
        clear hhad hgok
        refine hK.out _ _ ⟨kM, kL⟩ (fun hS' => ?_)
        clear hS' hK K
        (try simp only [List.getElem_toArray, List.getElem_cons_succ, List.getElem_cons_zero, Act.put, List.setIfInBounds_toArray, List.set_cons_zero, List.set_cons_succ])
        refine wpAnyH_take (i := 6) (oi := _) (v := .tuple #[memV (some ⟨g2, 0, none⟩) zs.length cap2, resV had gok, .int .i64 0]) rfl (by kernel_rfl) (by kernel_rfl) (by kernel_rfl) (fun _ _ _ h => HQ.out _ _ _ _ _ h) (Or.inl ⟨by rfl, ?_⟩) ⟨kM, kL⟩ ?_
        · intro w' hSw
          (try simp only [List.getElem_toArray, List.getElem_cons_succ, List.getElem_cons_zero])
          go_simp
        (try simp only [List.getElem_toArray, List.getElem_cons_succ, List.getElem_cons_zero, Act.put, List.setIfInBounds_toArray, List.set_cons_zero, List.set_cons_succ])
        refine wpAnyH_take (i := 7) (oi := _) (v := memV (some ⟨g2, 0, none⟩) zs.length cap2) rfl (by kernel_rfl) (by kernel_rfl) (by kernel_rfl) (fun _ _ _ h => HQ.out _ _ _ _ _ h) (Or.inl ⟨by rfl, ?_⟩) ⟨kM, kL⟩ ?_
        · intro w' hSw
          (try simp only [List.getElem_toArray, List.getElem_cons_succ, List.getElem_cons_zero])
          go_simp
        (try simp only [List.getElem_toArray, List.getElem_cons_succ, List.getElem_cons_zero, Act.put, List.setIfInBounds_toArray, List.set_cons_zero, List.set_cons_succ])
        refine wpAnyH_take (i := 8) (oi := _) (v := resV had gok) rfl (by kernel_rfl) (by kernel_rfl) (by kernel_rfl) (fun _ _ _ h => HQ.out _ _ _ _ _ h) (Or.inl ⟨by rfl, ?_⟩) ⟨kM, kL⟩ ?_
        · intro w' hSw
          (try simp only [List.getElem_toArray, List.getElem_cons_succ, List.getElem_cons_zero])
          go_simp
        (try simp only [List.getElem_toArray, List.getElem_cons_succ, List.getElem_cons_zero, Act.put, List.setIfInBounds_toArray, List.set_cons_zero, List.set_cons_succ])
        refine wpAnyH_take (i := 9) (oi := _) (v := .int .i64 0) rfl (by kernel_rfl) (by kernel_rfl) (by kernel_rfl) (fun _ _ _ h => HQ.out _ _ _ _ _ h) (Or.inl ⟨by rfl, ?_⟩) ⟨kM, kL⟩ ?_
        · intro w' hSw
          (try simp only [List.getElem_toArray, List.getElem_cons_succ, List.getElem_cons_zero])
          go_simp
        (try simp only [List.getElem_toArray, List.getElem_cons_succ, List.getElem_cons_zero, Act.put, List.setIfInBounds_toArray, List.set_cons_zero, List.set_cons_succ])
        refine wpAnyH_ready (rs := [11]) (by kernel_rfl) (by simp) ?_
        refine (AllReadyH.cons (o := _) rfl (fun K hK => ?_) AllReadyH.nil)
        (try simp only [List.getElem_toArray, List.getElem_cons_succ, List.getElem_cons_zero])
        go_simp
        have kR := Bk.made wl8 46 #[.int .i64 0, .bool false]
        have zbR : w.heap.size ≤ wl8.heap.size := hb.size
        have zmbR := kM.lt
        have zlbR := kL.lt
        have zr := kN.lt
        replace kN := kN.alloc (.cells #[.int .i64 0, .bool false] 46)
        replace kM := kM.alloc (.cells #[.int .i64 0, .bool false] 46)
        replace kL := kL.alloc (.cells #[.int .i64 0, .bool false] 46)
        replace hb := below_al hb (.cells #[.int .i64 0, .bool false] 46)
        replace hown2 := hown2.alloc (.cells #[.int .i64 0, .bool false] 46)
        refine hK.out _ _ ⟨kM, kL⟩ (fun hS' => ?_)
        clear hS' hK K
        (try simp only [List.getElem_toArray, List.getElem_cons_succ, List.getElem_cons_zero, Act.put, List.setIfInBounds_toArray, List.set_cons_zero, List.set_cons_succ])
        generalize wl8.alloc (.cells #[.int .i64 0, .bool false] 46) = wl9 at *
        generalize wl8.heap.size = bR at *
        have q1 := kN.cell 0
        have f1 := kN.free 0
        have l1 := kN.lt
        simp at q1
        refine wpAnyH_ready (rs := [12]) (by kernel_rfl) (by simp) ?_
        refine AllReadyH.cons (o := _) rfl (fun K hK => ?_) AllReadyH.nil
        (try simp only [List.getElem_toArray, List.getElem_cons_succ, List.getElem_cons_zero])
        go_simp
        clear q1 f1 l1
        have kN2 : Bk (wl9.setCell ⟨bM, 0, none⟩ (.slice (some ⟨g2, 0, none⟩) zs.length cap2)) bM 39 #[.slice (some ⟨g2, 0, none⟩) zs.length cap2] := kN.stored 0 _
        replace hown2 := hown2.far (p := ⟨bM, 0, none⟩) (own_ne hown2 kN (by decide)) (.slice (some ⟨g2, 0, none⟩) zs.length cap2)
        replace kM := kM.other (p := ⟨bM, 0, none⟩) (by dsimp only; omega) (.slice (some ⟨g2, 0, none⟩) zs.length cap2)
        replace kL := kL.other (p := ⟨bM, 0, none⟩) (by dsimp only; omega) (.slice (some ⟨g2, 0, none⟩) zs.length cap2)
        replace kR := kR.other (p := ⟨bM, 0, none⟩) (by dsimp only; omega) (.slice (some ⟨g2, 0, none⟩) zs.length cap2)
        replace hb := below_set hb (p := ⟨bM, 0, none⟩) (by dsimp only; omega) (.slice (some ⟨g2, 0, none⟩) zs.length cap2)
        refine hK.out _ _ ⟨kM, kL⟩ (fun hS' => ?_)
        clear hS' hK K
        (try simp only [List.getElem_toArray, List.getElem_cons_succ, List.getElem_cons_zero, Act.put, List.setIfInBounds_toArray, List.set_cons_zero, List.set_cons_succ])
        generalize wl9.setCell ⟨bM, 0, none⟩ (.slice (some ⟨g2, 0, none⟩) zs.length cap2) = ws1 at *
        have q1 := kR.cell 0
        have q2 := kR.cell 1
        have f1 := kR.free 0
        have f2 := kR.free 1
        have l1 := kR.lt
        simp at q1 q2
        refine wpAnyH_ready (rs := [13]) (by kernel_rfl) (by simp) ?_
        refine AllReadyH.cons (o := _) rfl (fun K hK => ?_) AllReadyH.nil
        (try simp only [List.getElem_toArray, List.getElem_cons_succ, List.getElem_cons_zero])
        go_simp
        clear q1 q2 f1 f2 l1
        replace hown2 := (hown2.far (p := ⟨bR, 0, none⟩) (own_ne hown2 kR (by decide)) (.int .i64 had)).far (p := ⟨bR, 1, none⟩) (own_ne hown2 kR (by decide)) (.bool gok)
        replace kN2 := (kN2.other (p := ⟨bR, 0, none⟩) (by dsimp only; omega) (.int .i64 had)).other (p := ⟨bR, 1, none⟩) (by dsimp only; omega) (.bool gok)
        replace kM := (kM.other (p := ⟨bR, 0, none⟩) (by dsimp only; omega) (.int .i64 had)).other (p := ⟨bR, 1, none⟩) (by dsimp only; omega) (.bool gok)
        replace kL := (kL.other (p := ⟨bR, 0, none⟩) (by dsimp only; omega) (.int .i64 had)).other (p := ⟨bR, 1, none⟩) (by dsimp only; omega) (.bool gok)
        replace hb := below_set (below_set hb (p := ⟨bR, 0, none⟩) (by dsimp only; omega) (.int .i64 had)) (p := ⟨bR, 1, none⟩) (by dsimp only; omega) (.bool gok)
        refine hK.out _ _ ⟨kM, kL⟩ (fun hS' => ?_)
        clear hS' hK K
        (try simp only [List.getElem_toArray, List.getElem_cons_succ, List.getElem_cons_zero, Act.put, List.setIfInBounds_toArray, List.set_cons_zero, List.set_cons_succ])
        refine wpAnyH_take (i := 14) (oi := _) (v := .int .i64 0) rfl (by kernel_rfl) (by kernel_rfl) (by kernel_rfl) (fun _ _ _ h => HQ.out _ _ _ _ _ h) (Or.inl ⟨by rfl, ?_⟩) ⟨kM, kL⟩ ?_
        · intro w' hSw
          (try simp only [List.getElem_toArray, List.getElem_cons_succ, List.getElem_cons_zero])
          go_simp
        (try simp only [List.getElem_toArray, List.getElem_cons_succ, List.getElem_cons_zero, Act.put, List.setIfInBounds_toArray, List.set_cons_zero, List.set_cons_succ])
        refine wpAnyH_done (by kernel_rfl) ?_ _
        exact HK.out _ _ _ _ _ _ _ _ _ _ _ _ bM g2 cap2 _ hb kN2 hown2
      · (try simp only [List.getElem_toArray, List.getElem_cons_succ, List.getElem_cons_zero])
        go_simp
        have kR := Bk.made wl7 46 #[.int .i64 0, .bool false]
        have zbR : w.heap.size ≤ wl7.heap.size := hb.size
        have zmbR := kM.lt
        have zlbR := kL.lt
        have zr := kN.lt
        replace kN := kN.alloc (.cells #[.int .i64 0, .bool false] 46)
        replace kM := kM.alloc (.cells #[.int .i64 0, .bool false] 46)
        replace kL := kL.alloc (.cells #[.int .i64 0, .bool false] 46)
        replace hb := below_al hb (.cells #[.int .i64 0, .bool false] 46)
        replace hom := hom.alloc (.cells #[.int .i64 0, .bool false] 46)
        refine hK.out _ _ ⟨kM, kL⟩ (fun hS' => ?_)
        clear hS' hK K
        (try simp only [List.getElem_toArray, List.getElem_cons_succ, List.getElem_cons_zero, Act.put, List.setIfInBounds_toArray, List.set_cons_zero, List.set_cons_succ])
        generalize wl7.alloc (.cells #[.int .i64 0, .bool false] 46) = wl10 at *
        generalize wl7.heap.size = bR at *
        refine wpAnyH_ready (rs := [5]) (by kernel_rfl) (by simp) ?_
        refine (AllReadyH.cons (o := _) rfl (fun K hK => ?_) AllReadyH.nil)
        (try simp only [List.getElem_toArray, List.getElem_cons_succ, List.getElem_cons_zero])
        go_simp
        have hsl := own_sl hom rfl
        (with_reducible refine (do_ok (some ⟨g, 0, none⟩) cap zs ⟨2, taskAt l t 0, 0, 1⟩ _ hsl (by omega) HE.out).mono ?_)
        rintro e wl11 ⟨g2, cap2, rfl, hown2, hb'⟩
        replace kM := kM.keep hb'
        replace kL := kL.keep hb'
        replace hown2 : OwnInts wl11 0 (.slice (some ⟨g2, 0, none⟩) zs.length cap2) ((⟨2, taskAt l t 0, 0, 1⟩ : Acc).make zs) := own_lower hown2 (Nat.zero_le _)
        replace kN := kN.keep hb'
        replace kR := kR.keep hb'
        replace hb := below_tr hb hb'
        clear hb' hsl hom
        obtain ⟨had, hhad⟩ : ∃ z, (⟨2, taskAt l t 0, 0, 1⟩ : Acc).had zs = z := ⟨_, rfl⟩
        obtain ⟨gok, hgok⟩ : ∃ z, (⟨2, taskAt l t 0, 0, 1⟩ : Acc).ok had = z := ⟨_, rfl⟩
        rw [hhad, hgok]
        clear hhad hgok
        refine hK.out _ _ ⟨kM, kL⟩ (fun hS' => ?_)
        clear hS' hK K
        (try simp only [List.getElem_toArray, List.getElem_cons_succ, List.getElem_cons_zero, Act.put, List.setIfInBounds_toArray, List.set_cons_zero, List.set_cons_succ])
        refine wpAnyH_take (i := 6) (oi := _) (v := .tuple #[memV (some ⟨g2, 0, none⟩) zs.length cap2, resV had gok, .int .i64 0]) rfl (by kernel_rfl) (by kernel_rfl) (by kernel_rfl) (fun _ _ _ h => HQ.out _ _ _ _ _ h) (Or.inl ⟨by rfl, ?_⟩) ⟨kM, kL⟩ ?_
        · intro w' hSw
          (try simp only [List.getElem_toArray, List.getElem_cons_succ, List.getElem_cons_zero])
          go_simp
        (try simp only [List.getElem_toArray, List.getElem_cons_succ, List.getElem_cons_zero, Act.put, List.setIfInBounds_toArray, List.set_cons_zero, List.set_cons_succ])
        refine wpAnyH_take (i := 7) (oi := _) (v := memV (some ⟨g2, 0, none⟩) zs.length cap2) rfl (by kernel_rfl) (by kernel_rfl) (by kernel_rfl) (fun _ _ _ h => HQ.out _ _ _ _ _ h) (Or.inl ⟨by rfl, ?_⟩) ⟨kM, kL⟩ ?_
        · intro w' hSw
          (try simp only [List.getElem_toArray, List.getElem_cons_succ, List.getElem_cons_zero])
          go_simp
        (try simp only [List.getElem_toArray, List.getElem_cons_succ, List.getElem_cons_zero, Act.put, List.setIfInBounds_toArray, List.set_cons_zero, List.set_cons_succ])
        refine wpAnyH_take (i := 8) (oi := _) (v := resV had gok) rfl (by kernel_rfl) (by kernel_rfl) (by kernel_rfl) (fun _ _ _ h => HQ.out _ _ _ _ _ h) (Or.inl ⟨by rfl, ?_⟩) ⟨kM, kL⟩ ?_
        · intro w' hSw
          (try simp only [List.getElem_toArray, List.getElem_cons_succ, List.getElem_cons_zero])
          go_simp
        (try simp only [List.getElem_toArray, List.getElem_cons_succ, List.getElem_cons_zero, Act.put, List.setIfInBounds_toArray, List.set_cons_zero, List.set_cons_succ])
        refine wpAnyH_take (i := 9) (oi := _) (v := .int .i64 0) rfl (by kernel_rfl) (by kernel_rfl) (by kernel_rfl) (fun _ _ _ h => HQ.out _ _ _ _ _ h) (Or.inl ⟨by rfl, ?_⟩) ⟨kM, kL⟩ ?_
        · intro w' hSw
          (try simp only [List.getElem_toArray, List.getElem_cons_succ, List.getElem_cons_zero])
          go_simp
        (try simp only [List.getElem_toArray, List.getElem_cons_succ, List.getElem_cons_zero, Act.put, List.setIfInBounds_toArray, List.set_cons_zero, List.set_cons_succ])
        have q1 := kN.cell 0
        have f1 := kN.free 0
        have l1 := kN.lt
        simp at q1
        refine wpAnyH_ready (rs := [12]) (by kernel_rfl) (by simp) ?_
        refine AllReadyH.cons (o := _) rfl (fun K hK => ?_) AllReadyH.nil
        (try simp only [List.getElem_toArray, List.getElem_cons_succ, List.getElem_cons_zero])
        go_simp
        clear q1 f1 l1
        have kN2 : Bk (wl11.setCell ⟨bM, 0, none⟩ (.slice (some ⟨g2, 0, none⟩) zs.length cap2)) bM 39 #[.slice (some ⟨g2, 0, none⟩) zs.length cap2] := kN.stored 0 _
        replace hown2 := hown2.far (p := ⟨bM, 0, none⟩) (own_ne hown2 kN (by decide)) (.slice (some ⟨g2, 0, none⟩) zs.length cap2)
        replace kM := kM.other (p := ⟨bM, 0, none⟩) (by dsimp only; omega) (.slice (some ⟨g2, 0, none⟩) zs.length cap2)
        replace kL := kL.other (p := ⟨bM, 0, none⟩) (by dsimp only; omega) (.slice (some ⟨g2, 0, none⟩) zs.length cap2)
        replace kR := kR.other (p := ⟨bM, 0, none⟩) (by dsimp only; omega) (.slice (some ⟨g2, 0, none⟩) zs.length cap2)
        replace hb := below_set hb (p := ⟨bM, 0, none⟩) (by dsimp only; omega) (.slice (some ⟨g2, 0, none⟩) zs.length cap2)
        refine hK.out _ _ ⟨kM, kL⟩ (fun hS' => ?_)
        clear hS' hK K
        (try simp only [List.getElem_toArray, List.getElem_cons_succ, List.getElem_cons_zero, Act.put, List.setIfInBounds_toArray, List.set_cons_zero, List.set_cons_succ])
        generalize wl11.setCell ⟨bM, 0, none⟩ (.slice (some ⟨g2, 0, none⟩) zs.length cap2) = ws1 at *
        have q1 := kR.cell 0
        have q2 := kR.cell 1
        have f1 := kR.free 0
        have f2 := kR.free 1
        have l1 := kR.lt
        simp at q1 q2
        refine wpAnyH_ready (rs := [13]) (by kernel_rfl) (by simp) ?_
        refine AllReadyH.cons (o := _) rfl (fun K hK => ?_) AllReadyH.nil
        (try simp only [List.getElem_toArray, List.getElem_cons_succ, List.getElem_cons_zero])
        go_simp
        clear q1 q2 f1 f2 l1
        replace hown2 := (hown2.far (p := ⟨bR, 0, none⟩) (own_ne hown2 kR (by decide)) (.int .i64 had)).far (p := ⟨bR, 1, none⟩) (own_ne hown2 kR (by decide)) (.bool gok)
        replace kN2 := (kN2.other (p := ⟨bR, 0, none⟩) (by dsimp only; omega) (.int .i64 had)).other (p := ⟨bR, 1, none⟩) (by dsimp only; omega) (.bool gok)
        replace kM := (kM.other (p := ⟨bR, 0, none⟩) (by dsimp only; omega) (.int .i64 had)).other (p := ⟨bR, 1, none⟩) (by dsimp only; omega) (.bool gok)
        replace kL := (kL.other (p := ⟨bR, 0, none⟩) (by dsimp only; omega) (.int .i64 had)).other (p := ⟨bR, 1, none⟩) (by dsimp only; omega) (.bool gok)
        replace hb := below_set (below_set hb (p := ⟨bR, 0, none⟩) (by dsimp only; omega) (.int .i64 had)) (p := ⟨bR, 1, none⟩) (by dsimp only; omega) (.bool gok)
        refine hK.out _ _ ⟨kM, kL⟩ (fun hS' => ?_)
        clear hS' hK K
        (try simp only [List.getElem_toArray, List.getElem_cons_succ, List.getElem_cons_zero, Act.put, List.setIfInBounds_toArray, List.set_cons_zero, List.set_cons_succ])
        refine wpAnyH_take (i := 14) (oi := _) (v := .int .i64 0) rfl (by kernel_rfl) (by kernel_rfl) (by kernel_rfl) (fun _ _ _ h => HQ.out _ _ _ _ _ h) (Or.inl ⟨by rfl, ?_⟩) ⟨kM, kL⟩ ?_
        · intro w' hSw
          (try simp only [List.getElem_toArray, List.getElem_cons_succ, List.getElem_cons_zero])
          go_simp
        (try simp only [List.getElem_toArray, List.getElem_cons_succ, List.getElem_cons_zero, Act.put, List.setIfInBounds_toArray, List.set_cons_zero, List.set_cons_succ])
        refine wpAnyH_done (by kernel_rfl) ?_ _
        exact HK.out _ _ _ _ _ _ _ _ _ _ _ _ bM g2 cap2 _ hb kN2 hown2
    · (try simp only [List.getElem_toArray, List.getElem_cons_succ, List.getElem_cons_zero])
      go_simp
      have kR := Bk.made wl1 46 #[.int .i64 0, .bool false]
      have zbR : w.heap.size ≤ wl1.heap.size := hb.size
      have zmbR := kM.lt
      have zlbR := kL.lt
      replace kM := kM.alloc (.cells #[.int .i64 0, .bool false] 46)
      replace kL := kL.alloc (.cells #[.int .i64 0, .bool false] 46)
      replace hb := below_al hb (.cells #[.int .i64 0, .bool false] 46)
      replace hom := hom.alloc (.cells #[.int .i64 0, .bool false] 46)
      refine hK.out _ _ ⟨kM, kL⟩ (fun hS' => ?_)
      clear hS' hK K
      (try simp only [List.getElem_toArray, List.getElem_cons_succ, List.getElem_cons_zero, Act.put, List.setIfInBounds_toArray, List.set_cons_zero, List.set_cons_succ])
      generalize wl1.alloc (.cells #[.int .i64 0, .bool false] 46) = wl12 at *
      generalize wl1.heap.size = bR at *
      refine wpAnyH_ready (rs := [5, 10]) (by kernel_rfl) (by simp) ?_
      refine (AllReadyH.cons (o := _) rfl (fun K hK => ?_) (AllReadyH.cons (o := _) rfl (fun K hK => ?_) AllReadyH.nil))
      · (try simp only [List.getElem_toArray, List.getElem_cons_succ, List.getElem_cons_zero])
        go_simp
        have hsl := own_sl hom rfl
        (with_reducible refine (do_ok (some ⟨g, 0, none⟩) cap zs ⟨2, taskAt l t 0, 0, 1⟩ _ hsl (by omega) HE.out).mono ?_)
        rintro e wl13 ⟨g2, cap2, rfl, hown2, hb'⟩
        replace kM := kM.keep hb'
        replace kL := kL.keep hb'
        replace hown2 : OwnInts wl13 0 (.slice (some ⟨g2, 0, none⟩) zs.length cap2) ((⟨2, taskAt l t 0, 0, 1⟩ : Acc).make zs) := own_lower hown2 (Nat.zero_le _)
        replace kR := kR.keep hb'
        replace hb := below_tr hb hb'
        clear hb' hsl hom
        obtain ⟨had, hhad⟩ : ∃ z, (⟨2, taskAt l t 0, 0, 1⟩ : Acc).had zs = z := ⟨_, rfl⟩
        obtain ⟨gok, hgok⟩ : ∃ z, (⟨2, taskAt l t 0, 0, 1⟩ : Acc).ok had = z := ⟨_, rfl⟩
        rw [hhad, hgok]
        clear hhad hgok
        refine hK.out _ _ ⟨kM, kL⟩ (fun hS' => ?_)
        clear hS' hK K
        (try simp only [List.getElem_toArray, List.getElem_cons_succ, List.getElem_cons_zero, Act.put, List.setIfInBounds_toArray, List.set_cons_zero, List.set_cons_succ])
        refine wpAnyH_take (i := 6) (oi := _) (v := .tuple #[memV (some ⟨g2, 0, none⟩) zs.length cap2, resV had gok, .int .i64 0]) rfl (by kernel_rfl) (by kernel_rfl) (by kernel_rfl) (fun _ _ _ h => HQ.out _ _ _ _ _ h) (Or.inl ⟨by rfl, ?_⟩) ⟨kM, kL⟩ ?_
        · intro w' hSw
          (try simp only [List.getElem_toArray, List.getElem_cons_succ, List.getElem_cons_zero])
          go_simp
        (try simp only [List.getElem_toArray, List.getElem_cons_succ, List.getElem_cons_zero, Act.put, List.setIfInBounds_toArray, List.set_cons_zero, List.set_cons_succ])
        refine wpAnyH_take (i := 7) (oi := _) (v := memV (some ⟨g2, 0, none⟩) zs.length cap2) rfl (by kernel_rfl) (by kernel_rfl) (by kernel_rfl) (fun _ _ _ h => HQ.out _ _ _ _ _ h) (Or.inl ⟨by rfl, ?_⟩) ⟨kM, kL⟩ ?_
        · intro w' hSw
          (try simp only [List.getElem_toArray, List.getElem_cons_succ, List.getElem_cons_zero])
          go_simp
        (try simp only [List.getElem_toArray, List.getElem_cons_succ, List.getElem_cons_zero, Act.put, List.setIfInBounds_toArray, List.set_cons_zero, List.set_cons_succ])
        refine wpAnyH_take (i := 8) (oi := _) (v := resV had gok) rfl (by kernel_rfl) (by kernel_rfl) (by kernel_rfl) (fun _ _ _ h => HQ.out _ _ _ _ _ h) (Or.inl ⟨by rfl, ?_⟩) ⟨kM, kL⟩ ?_
        · intro w' hSw
          (try simp only [List.getElem_toArray, List.getElem_cons_succ, List.getElem_cons_zero])
          go_simp
        (try simp only [List.getElem_toArray, List.getElem_cons_succ, List.getElem_cons_zero, Act.put, List.setIfInBounds_toArray, List.set_cons_zero, List.set_cons_succ])
        refine wpAnyH_take (i := 9) (oi := _) (v := .int .i64 0) rfl (by kernel_rfl) (by kernel_rfl) (by kernel_rfl) (fun _ _ _ h => HQ.out _ _ _ _ _ h) (Or.inl ⟨by rfl, ?_⟩) ⟨kM, kL⟩ ?_
        · intro w' hSw
          (try simp only [List.getElem_toArray, List.getElem_cons_succ, List.getElem_cons_zero])
          go_simp
        (try simp only [List.getElem_toArray, List.getElem_cons_succ, List.getElem_cons_zero, Act.put, List.setIfInBounds_toArray, List.set_cons_zero, List.set_cons_succ])
        refine wpAnyH_ready (rs := [10]) (by kernel_rfl) (by simp) ?_
        refine (AllReadyH.cons (o := _) rfl (fun K hK => ?_) AllReadyH.nil)
        (try simp only [List.getElem_toArray, List.getElem_cons_succ, List.getElem_cons_zero])
        go_simp
        have kN := Bk.made wl13 39 #[.slice none 0 0]
        have zbM : w.heap.size ≤ wl13.heap.size := hb.size
        have zmbM := kM.lt
        have zlbM := kL.lt
        have zr := kR.lt
        replace kR := kR.alloc (.cells #[.slice none 0 0] 39)
        replace kM := kM.alloc (.cells #[.slice none 0 0] 39)
        replace kL := kL.alloc (.cells #[.slice none 0 0] 39)
        replace hb := below_al hb (.cells #[.slice none 0 0] 39)
        replace hown2 := hown2.alloc (.cells #[.slice none 0 0] 39)
        refine hK.out _ _ ⟨kM, kL⟩ (fun hS' => ?_)
        clear hS' hK K
        (try simp only [List.getElem_toArray, List.getElem_cons_succ, List.getElem_cons_zero, Act.put, List.setIfInBounds_toArray, List.set_cons_zero, List.set_cons_succ])
        generalize wl13.alloc (.cells #[.slice none 0 0] 39) = wl14 at *
        generalize wl13.heap.size = bM at *
        have q1 := kN.cell 0
        have f1 := kN.free 0
        have l1 := kN.lt
        simp at q1
        refine wpAnyH_ready (rs := [12]) (by kernel_rfl) (by simp) ?_
        refine AllReadyH.cons (o := _) rfl (fun K hK => ?_) AllReadyH.nil
        (try simp only [List.getElem_toArray, List.getElem_cons_succ, List.getElem_cons_zero])
        go_simp
        clear q1 f1 l1
        have kN2 : Bk (wl14.setCell ⟨bM, 0, none⟩ (.slice (some ⟨g2, 0, none⟩) zs.length cap2)) bM 39 #[.slice (some ⟨g2, 0, none⟩) zs.length cap2] := kN.stored 0 _
        replace hown2 := hown2.far (p := ⟨bM, 0, none⟩) (own_ne hown2 kN (by decide)) (.slice (some ⟨g2, 0, none⟩) zs.length cap2)
        replace kM := kM.other (p := ⟨bM, 0, none⟩) (by dsimp only; omega) (.slice (some ⟨g2, 0, none⟩) zs.length cap2)
        replace kL := kL.other (p := ⟨bM, 0, none⟩) (by dsimp only; omega) (.slice (some ⟨g2, 0, none⟩) zs.length cap2)
        replace kR := kR.other (p := ⟨bM, 0, none⟩) (by dsimp only; omega) (.slice (some ⟨g2, 0, none⟩) zs.length cap2)
        replace hb := below_set hb (p := ⟨bM, 0, none⟩) (by dsimp only; omega) (.slice (some ⟨g2, 0, none⟩) zs.length cap2)
        refine hK.out _ _ ⟨kM, kL⟩ (fun hS' => ?_)
        clear hS' hK K
        (try simp only [List.getElem_toArray, List.getElem_cons_succ, List.getElem_cons_zero, Act.put, List.setIfInBounds_toArray, List.set_cons_zero, List.set_cons_succ])
        generalize wl14.setCell ⟨bM, 0, none⟩ (.slice (some ⟨g2, 0, none⟩) zs.length cap2) = ws1 at *
        have q1 := kR.cell 0
        have q2 := kR.cell 1
        have f1 := kR.free 0
        have f2 := kR.free 1
        have l1 := kR.lt
        simp at q1 q2
        refine wpAnyH_ready (rs := [13]) (by kernel_rfl) (by simp) ?_
        refine AllReadyH.cons (o := _) rfl (fun K hK => ?_) AllReadyH.nil
        (try simp only [List.getElem_toArray, List.getElem_cons_succ, List.getElem_cons_zero])
        go_simp
        clear q1 q2 f1 f2 l1
        replace hown2 := (hown2.far (p := ⟨bR, 0, none⟩) (own_ne hown2 kR (by decide)) (.int .i64 had)).far (p := ⟨bR, 1, none⟩) (own_ne hown2 kR (by decide)) (.bool gok)
        replace kN2 := (kN2.other (p := ⟨bR, 0, none⟩) (by dsimp only; omega) (.int .i64 had)).other (p := ⟨bR, 1, none⟩) (by dsimp only; omega) (.bool gok)
        replace kM := (kM.other (p := ⟨bR, 0, none⟩) (by dsimp only; omega) (.int .i64 had)).other (p := ⟨bR, 1, none⟩) (by dsimp only; omega) (.bool gok)
        replace kL := (kL.other (p := ⟨bR, 0, none⟩) (by dsimp only; omega) (.int .i64 had)).other (p := ⟨bR, 1, none⟩) (by dsimp only; omega) (.bool gok)
        replace hb := below_set (below_set hb (p := ⟨bR, 0, none⟩) (by dsimp only; omega) (.int .i64 had)) (p := ⟨bR, 1, none⟩) (by dsimp only; omega) (.bool gok)
        refine hK.out _ _ ⟨kM, kL⟩ (fun hS' => ?_)
        clear hS' hK K
        (try simp only [List.getElem_toArray, List.getElem_cons_succ, List.getElem_cons_zero, Act.put, List.setIfInBounds_toArray, List.set_cons_zero, List.set_cons_succ])
        refine wpAnyH_take (i := 14) (oi := _) (v := .int .i64 0) rfl (by kernel_rfl) (by kernel_rfl) (by kernel_rfl) (fun _ _ _ h => HQ.out _ _ _ _ _ h) (Or.inl ⟨by rfl, ?_⟩) ⟨kM, kL⟩ ?_
        · intro w' hSw
          (try simp only [List.getElem_toArray, List.getElem_cons_succ, List.getElem_cons_zero])
          go_simp
        (try simp only [List.getElem_toArray, List.getElem_cons_succ, List.getElem_cons_zero, Act.put, List.setIfInBounds_toArray, List.set_cons_zero, List.set_cons_succ])
        refine wpAnyH_done (by kernel_rfl) ?_ _
        exact HK.out _ _ _ _ _ _ _ _ _ _ _ _ bM g2 cap2 _ hb kN2 hown2
      · (try simp only [List.getElem_toArray, List.getElem_cons_succ, List.getElem_cons_zero])
        go_simp
        have kN := Bk.made wl12 39 #[.slice none 0 0]
        have zbM : w.heap.size ≤ wl12.heap.size := hb.size
        have zmbM := kM.lt
        have zlbM := kL.lt
        have zr := kR.lt
        replace kR := kR.alloc (.cells #[.slice none 0 0] 39)
        replace kM := kM.alloc (.cells #[.slice none 0 0] 39)
        replace kL := kL.alloc (.cells #[.slice none 0 0] 39)
        replace hb := below_al hb (.cells #[.slice none 0 0] 39)
        replace hom := hom.alloc (.cells #[.slice none 0 0] 39)
        refine hK.out _ _ ⟨kM, kL⟩ (fun hS' => ?_)
        clear hS' hK K
        (try simp only [List.getElem_toArray, List.getElem_cons_succ, List.getElem_cons_zero, Act.put, List.setIfInBounds_toArray, List.set_cons_zero, List.set_cons_succ])
        generalize wl12.alloc (.cells #[.slice none 0 0] 39) = wl15 at *
        generalize wl12.heap.size = bM at *
        refine wpAnyH_ready (rs := [5]) (by kernel_rfl) (by simp) ?_
        refine (AllReadyH.cons (o := _) rfl (fun K hK => ?_) AllReadyH.nil)
        (try simp only [List.getElem_toArray, List.getElem_cons_succ, List.getElem_cons_zero])
        go_simp
        have hsl := own_sl hom rfl
        (with_reducible refine (do_ok (some ⟨g, 0, none⟩) cap zs ⟨2, taskAt l t 0, 0, 1⟩ _ hsl (by omega) HE.out).mono ?_)
        rintro e wl16 ⟨g2, cap2, rfl, hown2, hb'⟩
        replace kM := kM.keep hb'
        replace kL := kL.keep hb'
        replace hown2 : OwnInts wl16 0 (.slice (some ⟨g2, 0, none⟩) zs.length cap2) ((⟨2, taskAt l t 0, 0, 1⟩ : Acc).make zs) := own_lower hown2 (Nat.zero_le _)
        replace kN := kN.keep hb'
        replace kR := kR.keep hb'
        replace hb := below_tr hb hb'
        clear hb' hsl hom
        obtain ⟨had, hhad⟩ : ∃ z, (⟨2, taskAt l t 0, 0, 1⟩ : Acc).had zs = z := ⟨_, rfl⟩
        obtain ⟨gok, hgok⟩ : ∃ z, (⟨2, taskAt l t 0, 0, 1⟩ : Acc).ok had = z := ⟨_, rfl⟩
        rw [hhad, hgok]
        clear hhad hgok
        refine hK.out _ _ ⟨kM, kL⟩ (fun hS' => ?_)
        clear hS' hK K
        (try simp only [List.getElem_toArray, List.getElem_cons_succ, List.getElem_cons_zero, Act.put, List.setIfInBounds_toArray, List.set_cons_zero, List.set_cons_succ])
        refine wpAnyH_take (i := 6) (oi := _) (v := .tuple #[memV (some ⟨g2, 0, none⟩) zs.length cap2, resV had gok, .int .i64 0]) rfl (by kernel_rfl) (by kernel_rfl) (by kernel_rfl) (fun _ _ _ h => HQ.out _ _ _ _ _ h) (Or.inl ⟨by rfl, ?_⟩) ⟨kM, kL⟩ ?_
        · intro w' hSw
          (try simp only [List.getElem_toArray, List.getElem_cons_succ, List.getElem_cons_zero])
          go_simp
        (try simp only [List.getElem_toArray, List.getElem_cons_succ, List.getElem_cons_zero, Act.put, List.setIfInBounds_toArray, List.set_cons_zero, List.set_cons_succ])
        refine wpAnyH_take (i := 7) (oi := _) (v := memV (some ⟨g2, 0, none⟩) zs.length cap2) rfl (by kernel_rfl) (by kernel_rfl) (by kernel_rfl) (fun _ _ _ h => HQ.out _ _ _ _ _ h) (Or.inl ⟨by rfl, ?_⟩) ⟨kM, kL⟩ ?_
        · intro w' hSw
          (try simp only [List.getElem_toArray, List.getElem_cons_succ, List.getElem_cons_zero])
          go_simp
        (try simp only [List.getElem_toArray, List.getElem_cons_succ, List.getElem_cons_zero, Act.put, List.setIfInBounds_toArray, List.set_cons_zero, List.set_cons_succ])
        refine wpAnyH_take (i := 8) (oi := _) (v := resV had gok) rfl (by kernel_rfl) (by kernel_rfl) (by kernel_rfl) (fun _ _ _ h => HQ.out _ _ _ _ _ h) (Or.inl ⟨by rfl, ?_⟩) ⟨kM, kL⟩ ?_
        · intro w' hSw
          (try simp only [List.getElem_toArray, List.getElem_cons_succ, List.getElem_cons_zero])
          go_simp
        (try simp only [List.getElem_toArray, List.getElem_cons_succ, List.getElem_cons_zero, Act.put, List.setIfInBounds_toArray, List.set_cons_zero, List.set_cons_succ])
        refine wpAnyH_take (i := 9) (oi := _) (v := .int .i64 0) rfl (by kernel_rfl) (by kernel_rfl) (by kernel_rfl) (fun _ _ _ h => HQ.out _ _ _ _ _ h) (Or.inl ⟨by rfl, ?_⟩) ⟨kM, kL⟩ ?_
        · intro w' hSw
          (try simp only [List.getElem_toArray, List.getElem_cons_succ, List.getElem_cons_zero])
          go_simp
        (try simp only [List.getElem_toArray, List.getElem_cons_succ, List.getElem_cons_zero, Act.put, List.setIfInBounds_toArray, List.set_cons_zero, List.set_cons_succ])
        have q1 := kN.cell 0
        have f1 := kN.free 0
        have l1 := kN.lt
        simp at q1
        refine wpAnyH_ready (rs := [12]) (by kernel_rfl) (by simp) ?_
        refine AllReadyH.cons (o := _) rfl (fun K hK => ?_) AllReadyH.nil
        (try simp only [List.getElem_toArray, List.getElem_cons_succ, List.getElem_cons_zero])
        go_simp
        clear q1 f1 l1
        have kN2 : Bk (wl16.setCell ⟨bM, 0, none⟩ (.slice (some ⟨g2, 0, none⟩) zs.length cap2)) bM 39 #[.slice (some ⟨g2, 0, none⟩) zs.length cap2] := kN.stored 0 _
        replace hown2 := hown2.far (p := ⟨bM, 0, none⟩) (own_ne hown2 kN (by decide)) (.slice (some ⟨g2, 0, none⟩) zs.length cap2)
        replace kM := kM.other (p := ⟨bM, 0, none⟩) (by dsimp only; omega) (.slice (some ⟨g2, 0, none⟩) zs.length cap2)
        replace kL := kL.other (p := ⟨bM, 0, none⟩) (by dsimp only; omega) (.slice (some ⟨g2, 0, none⟩) zs.length cap2)
        replace kR := kR.other (p := ⟨bM, 0, none⟩) (by dsimp only; omega) (.slice (some ⟨g2, 0, none⟩) zs.length cap2)
        replace hb := below_set hb (p := ⟨bM, 0, none⟩) (by dsimp only; omega) (.slice (some ⟨g2, 0, none⟩) zs.length cap2)
        refine hK.out _ _ ⟨kM, kL⟩ (fun hS' => ?_)
        clear hS' hK K
        (try simp only [List.getElem_toArray, List.getElem_cons_succ, List.getElem_cons_zero, Act.put, List.setIfInBounds_toArray, List.set_cons_zero, List.set_cons_succ])
        generalize wl16.setCell ⟨bM, 0, none⟩ (.slice (some ⟨g2, 0, none⟩) zs.length cap2) = ws1 at *
        have q1 := kR.cell 0
        have q2 := kR.cell 1
        have f1 := kR.free 0
        have f2 := kR.free 1
        have l1 := kR.lt
        simp at q1 q2
        refine wpAnyH_ready (rs := [13]) (by kernel_rfl) (by simp) ?_
        refine AllReadyH.cons (o := _) rfl (fun K hK => ?_) AllReadyH.nil
        (try simp only [List.getElem_toArray, List.getElem_cons_succ, List.getElem_cons_zero])
        go_simp
        clear q1 q2 f1 f2 l1
        replace hown2 := (hown2.far (p := ⟨bR, 0, none⟩) (own_ne hown2 kR (by decide)) (.int .i64 had)).far (p := ⟨bR, 1, none⟩) (own_ne hown2 kR (by decide)) (.bool gok)
        replace kN2 := (kN2.other (p := ⟨bR, 0, none⟩) (by dsimp only; omega) (.int .i64 had)).other (p := ⟨bR, 1, none⟩) (by dsimp only; omega) (.bool gok)
        replace kM := (kM.other (p := ⟨bR, 0, none⟩) (by dsimp only; omega) (.int .i64 had)).other (p := ⟨bR, 1, none⟩) (by dsimp only; omega) (.bool gok)
        replace kL := (kL.other (p := ⟨bR, 0, none⟩) (by dsimp only; omega) (.int .i64 had)).other (p := ⟨bR, 1, none⟩) (by dsimp only; omega) (.bool gok)
        replace hb := below_set (below_set hb (p := ⟨bR, 0, none⟩) (by dsimp only; omega) (.int .i64 had)) (p := ⟨bR, 1, none⟩) (by dsimp only; omega) (.bool gok)
        refine hK.out _ _ ⟨kM, kL⟩ (fun hS' => ?_)
        clear hS' hK K
        (try simp only [List.getElem_toArray, List.getElem_cons_succ, List.getElem_cons_zero, Act.put, List.setIfInBounds_toArray, List.set_cons_zero, List.set_cons_succ])
        refine wpAnyH_take (i := 14) (oi := _) (v := .int .i64 0) rfl (by kernel_rfl) (by kernel_rfl) (by kernel_rfl) (fun _ _ _ h => HQ.out _ _ _ _ _ h) (Or.inl ⟨by rfl, ?_⟩) ⟨kM, kL⟩ ?_
        · intro w' hSw
          (try simp only [List.getElem_toArray, List.getElem_cons_succ, List.getElem_cons_zero])
          go_simp
        (try simp only [List.getElem_toArray, List.getElem_cons_succ, List.getElem_cons_zero, Act.put, List.setIfInBounds_toArray, List.set_cons_zero, List.set_cons_succ])
        refine wpAnyH_done (by kernel_rfl) ?_ _
        exact HK.out _ _ _ _ _ _ _ _ _ _ _ _ bM g2 cap2 _ hb kN2 hown2
  · (try simp only [List.getElem_toArray, List.getElem_cons_succ, List.getElem_cons_zero])
    go_simp
    have kN := Bk.made wl0 39 #[.slice none 0 0]
    have zbM : w.heap.size ≤ wl0.heap.size := hb.size
    have zmbM := kM.lt
    have zlbM := kL.lt
    replace kM := kM.alloc (.cells #[.slice none 0 0] 39)
    replace kL := kL.alloc (.cells #[.slice none 0 0] 39)
    replace hb := below_al hb (.cells #[.slice none 0 0] 39)
    replace hom := hom.alloc (.cells #[.slice none 0 0] 39)
    refine hK.out _ _ ⟨kM, kL⟩ (fun hS' => ?_)
    clear hS' hK K
    (try simp only [List.getElem_toArray, List.getElem_cons_succ, List.getElem_cons_zero, Act.put, List.setIfInBounds_toArray, List.set_cons_zero, List.set_cons_succ])
    generalize wl0.alloc (.cells #[.slice none 0 0] 39) = wl17 at *
    generalize wl0.heap.size = bM at *
    refine wpAnyH_ready (rs := [3, 11]) (by kernel_rfl) (by simp) ?_
    refine (AllReadyH.cons (o := _) rfl (fun K hK => ?_) (AllReadyH.cons (o := _) rfl (fun K hK => ?_) AllReadyH.nil))
    · (try simp only [List.getElem_toArray, List.getElem_cons_succ, List.getElem_cons_zero])
      go_simp
      (with_reducible refine (task_any l t 0 _ HF.out (by omega)).mono ?_)
      rintro e wl18 ⟨rfl, hb'⟩
      replace kM := kM.keep hb'
      replace kL := kL.keep hb'
      replace hom : OwnInts wl18 0 (.slice (some ⟨g, 0, none⟩) zs.length cap) zs := own_keepb hom hb'
      replace kN := kN.keep hb'
      replace hb := below_tr hb hb'
      clear hb'
      refine hK.out _ _ ⟨kM, kL⟩ (fun hS' => ?_)
      clear hS' hK K
      (try simp only [List.getElem_toArray, List.getElem_cons_succ, List.getElem_cons_zero, Act.put, List.setIfInBounds_toArray, List.set_cons_zero, List.set_cons_succ])
      refine wpAnyH_take (i := 4) (oi := _) (v := .agg #[.int .i64 2, .int .i64 (taskAt l t 0), .int .i64 0, .int .i64 1]) rfl (by kernel_rfl) (by kernel_rfl) (by kernel_rfl) (fun _ _ _ h => HQ.out _ _ _ _ _ h) (Or.inl ⟨by rfl, ?_⟩) ⟨kM, kL⟩ ?_
      · intro w' hSw
        (try simp only [List.getElem_toArray, List.getElem_cons_succ, List.getElem_cons_zero])
        go_simp
      (try simp only [List.getElem_toArray, List.getElem_cons_succ, List.getElem_cons_zero, Act.put, List.setIfInBounds_toArray, List.set_cons_zero, List.set_cons_succ])
      refine wpAnyH_ready (rs := [5, 11]) (by kernel_rfl) (by simp) ?_
      refine (AllReadyH.cons (o := _) rfl (fun K hK => ?_) (AllReadyH.cons (o := _) rfl (fun K hK => ?_) AllReadyH.nil))
      · (try simp only [List.getElem_toArray, List.getElem_cons_succ, List.getElem_cons_zero])
        go_simp
        have hsl := own_sl hom rfl
        (with_reducible refine (do_ok (some ⟨g, 0, none⟩) cap zs ⟨2, taskAt l t 0, 0, 1⟩ _ hsl (by omega) HE.out).mono ?_)
        rintro e wl19 ⟨g2, cap2, rfl, hown2, hb'⟩
        replace kM := kM.keep hb'
        replace kL := kL.keep hb'
        replace hown2 : OwnInts wl19 0 (.slice (some ⟨g2, 0, none⟩) zs.length cap2) ((⟨2, taskAt l t 0, 0, 1⟩ : Acc).make zs) := own_lower hown2 (Nat.zero_le _)
        replace kN := kN.keep hb'
        replace hb := below_tr hb hb'
        clear hb' hsl hom
        obtain ⟨had, hhad⟩ : ∃ z, (⟨2, taskAt l t 0, 0, 1⟩ : Acc).had zs = z := ⟨_, rfl⟩
        obtain ⟨gok, hgok⟩ : ∃ z, (⟨2, taskAt l t 0, 0, 1⟩ : Acc).ok had = z := ⟨_, rfl⟩
        rw [hhad, hgok]
        clear hhad hgok
        refine hK.out _ _ ⟨kM, kL⟩ (fun hS' => ?_)
        clear hS' hK K
        (try simp only [List.getElem_toArray, List.getElem_cons_succ, List.getElem_cons_zero, Act.put, List.setIfInBounds_toArray, List.set_cons_zero, List.set_cons_succ])
        refine wpAnyH_take (i := 6) (oi := _) (v := .tuple #[memV (some ⟨g2, 0, none⟩) zs.length cap2, resV had gok, .int .i64 0]) rfl (by kernel_rfl) (by kernel_rfl) (by kernel_rfl) (fun _ _ _ h => HQ.out _ _ _ _ _ h) (Or.inl ⟨by rfl, ?_⟩) ⟨kM, kL⟩ ?_
        · intro w' hSw
          (try simp only [List.getElem_toArray, List.getElem_cons_succ, List.getElem_cons_zero])
          go_simp
        (try simp only [List.getElem_toArray, List.getElem_cons_succ, List.getElem_cons_zero, Act.put, List.setIfInBounds_toArray, List.set_cons_zero, List.set_cons_succ])
        refine wpAnyH_take (i := 7) (oi := _) (v := memV (some ⟨g2, 0, none⟩) zs.length cap2) rfl (by kernel_rfl) (by kernel_rfl) (by kernel_rfl) (fun _ _ _ h => HQ.out _ _ _ _ _ h) (Or.inl ⟨by rfl, ?_⟩) ⟨kM, kL⟩ ?_
        · intro w' hSw
          (try simp only [List.getElem_toArray, List.getElem_cons_succ, List.getElem_cons_zero])
          go_simp
        (try simp only [List.getElem_toArray, List.getElem_cons_succ, List.getElem_cons_zero, Act.put, List.setIfInBounds_toArray, List.set_cons_zero, List.set_cons_succ])
        refine wpAnyH_take (i := 8) (oi := _) (v := resV had gok) rfl (by kernel_rfl) (by kernel_rfl) (by kernel_rfl) (fun _ _ _ h => HQ.out _ _ _ _ _ h) (Or.inl ⟨by rfl, ?_⟩) ⟨kM, kL⟩ ?_
        · intro w' hSw
          (try simp only [List.getElem_toArray, List.getElem_cons_succ, List.getElem_cons_zero])
          go_simp
        (try simp only [List.getElem_toArray, List.getElem_cons_succ, List.getElem_cons_zero, Act.put, List.setIfInBounds_toArray, List.set_cons_zero, List.set_cons_succ])
        refine wpAnyH_take (i := 9) (oi := _) (v := .int .i64 0) rfl (by kernel_rfl) (by kernel_rfl) (by kernel_rfl) (fun _ _ _ h => HQ.out _ _ _ _ _ h) (Or.inl ⟨by rfl, ?_⟩) ⟨kM, kL⟩ ?_
        · intro w' hSw
          (try simp only [List.getElem_toArray, List.getElem_cons_succ, List.getElem_cons_zero])
          go_simp
        (try simp only [List.getElem_toArray, List.getElem_cons_succ, List.getElem_cons_zero, Act.put, List.setIfInBounds_toArray, List.set_cons_zero, List.set_cons_succ])
        refine wpAnyH_ready (rs := [11]) (by kernel_rfl) (by simp) ?_
        refine (AllReadyH.cons (o := _) rfl (fun K hK => ?_) AllReadyH.nil)
        (try simp only [List.getElem_toArray, List.getElem_cons_succ, List.getElem_cons_zero])
        go_simp
        have kR := Bk.made wl19 46 #[.int .i64 0, .bool false]
        have zbR : w.heap.size ≤ wl19.heap.size := hb.size
        have zmbR := kM.lt
        have zlbR := kL.lt
        have zr := kN.lt
        replace kN := kN.alloc (.cells #[.int .i64 0, .bool false] 46)
        replace kM := kM.alloc (.cells #[.int .i64 0, .bool false] 46)
        replace kL := kL.alloc (.cells #[.int .i64 0, .bool false] 46)
        replace hb := below_al hb (.cells #[.int .i64 0, .bool false] 46)
        replace hown2 := hown2.alloc (.cells #[.int .i64 0, .bool false] 46)
        refine hK.out _ _ ⟨kM, kL⟩ (fun hS' => ?_)
        clear hS' hK K
        (try simp only [List.getElem_toArray, List.getElem_cons_succ, List.getElem_cons_zero, Act.put, List.setIfInBounds_toArray, List.set_cons_zero, List.set_cons_succ])
        generalize wl19.alloc (.cells #[.int .i64 0, .bool false] 46) = wl20 at *
        generalize wl19.heap.size = bR at *
        have q1 := kN.cell 0
        have f1 := kN.free 0
        have l1 := kN.lt
        simp at q1
        refine wpAnyH_ready (rs := [12]) (by kernel_rfl) (by simp) ?_
        refine AllReadyH.cons (o := _) rfl (fun K hK => ?_) AllReadyH.nil
        (try simp only [List.getElem_toArray, List.getElem_cons_succ, List.getElem_cons_zero])
        go_simp
        clear q1 f1 l1
        have kN2 : Bk (wl20.setCell ⟨bM, 0, none⟩ (.slice (some ⟨g2, 0, none⟩) zs.length cap2)) bM 39 #[.slice (some ⟨g2, 0, none⟩) zs.length cap2] := kN.stored 0 _
        replace hown2 := hown2.far (p := ⟨bM, 0, none⟩) (own_ne hown2 kN (by decide)) (.slice (some ⟨g2, 0, none⟩) zs.length cap2)
        replace kM := kM.other (p := ⟨bM, 0, none⟩) (by dsimp only; omega) (.slice (some ⟨g2, 0, none⟩) zs.length cap2)
        replace kL := kL.other (p := ⟨bM, 0, none⟩) (by dsimp only; omega) (.slice (some ⟨g2, 0, none⟩) zs.length cap2)
        replace kR := kR.other (p := ⟨bM, 0, none⟩) (by dsimp only; omega) (.slice (some ⟨g2, 0, none⟩) zs.length cap2)
        replace hb := below_set hb (p := ⟨bM, 0, none⟩) (by dsimp only; omega) (.slice (some ⟨g2, 0, none⟩) zs.length cap2)
        refine hK.out _ _ ⟨kM, kL⟩ (fun hS' => ?_)
        clear hS' hK K
        (try simp only [List.getElem_toArray, List.getElem_cons_succ, List.getElem_cons_zero, Act.put, List.setIfInBounds_toArray, List.set_cons_zero, List.set_cons_succ])
        generalize wl20.setCell ⟨bM, 0, none⟩ (.slice (some ⟨g2, 0, none⟩) zs.length cap2) = ws1 at *
        have q1 := kR.cell 0
        have q2 := kR.cell 1
        have f1 := kR.free 0
        have f2 := kR.free 1
        have l1 := kR.lt
        simp at q1 q2
        refine wpAnyH_ready (rs := [13]) (by kernel_rfl) (by simp) ?_
        refine AllReadyH.cons (o := _) rfl (fun K hK => ?_) AllReadyH.nil
        (try simp only [List.getElem_toArray, List.getElem_cons_succ, List.getElem_cons_zero])
        go_simp
        clear q1 q2 f1 f2 l1
        replace hown2 := (hown2.far (p := ⟨bR, 0, none⟩) (own_ne hown2 kR (by decide)) (.int .i64 had)).far (p := ⟨bR, 1, none⟩) (own_ne hown2 kR (by decide)) (.bool gok)
        replace kN2 := (kN2.other (p := ⟨bR, 0, none⟩) (by dsimp only; omega) (.int .i64 had)).other (p := ⟨bR, 1, none⟩) (by dsimp only; omega) (.bool gok)
        replace kM := (kM.other (p := ⟨bR, 0, none⟩) (by dsimp only; omega) (.int .i64 had)).other (p := ⟨bR, 1, none⟩) (by dsimp only; omega) (.bool gok)
        replace kL := (kL.other (p := ⟨bR, 0, none⟩) (by dsimp only; omega) (.int .i64 had)).other (p := ⟨bR, 1, none⟩) (by dsimp only; omega) (.bool gok)
        replace hb := below_set (below_set hb (p := ⟨bR, 0, none⟩) (by dsimp only; omega) (.int .i64 had)) (p := ⟨bR, 1, none⟩) (by dsimp only; omega) (.bool gok)
        refine hK.out _ _ ⟨kM, kL⟩ (fun hS' => ?_)
        clear hS' hK K
        (try simp only [List.getElem_toArray, List.getElem_cons_succ, List.getElem_cons_zero, Act.put, List.setIfInBounds_toArray, List.set_cons_zero, List.set_cons_succ])
        refine wpAnyH_take (i := 14) (oi := _) (v := .int .i64 0) rfl (by kernel_rfl) (by kernel_rfl) (by kernel_rfl) (fun _ _ _ h => HQ.out _ _ _ _ _ h) (Or.inl ⟨by rfl, ?_⟩) ⟨kM, kL⟩ ?_
        · intro w' hSw
          (try simp only [List.getElem_toArray, List.getElem_cons_succ, List.getElem_cons_zero])
          go_simp
        (try simp only [List.getElem_toArray, List.getElem_cons_succ, List.getElem_cons_zero, Act.put, List.setIfInBounds_toArray, List.set_cons_zero, List.set_cons_succ])
        refine wpAnyH_done (by kernel_rfl) ?_ _
        exact HK.out _ _ _ _ _ _ _ _ _ _ _ _ bM g2 cap2 _ hb kN2 hown2
      · (try simp only [List.getElem_toArray, List.getElem_cons_succ, List.getElem_cons_zero])
        go_simp
        have kR := Bk.made wl18 46 #[.int .i64 0, .bool false]
        have zbR : w.heap.size ≤ wl18.heap.size := hb.size
        have zmbR := kM.lt
        have zlbR := kL.lt
        have zr := kN.lt
        replace kN := kN.alloc (.cells #[.int .i64 0, .bool false] 46)
        replace kM := kM.alloc (.cells #[.int .i64 0, .bool false] 46)
        replace kL := kL.alloc (.cells #[.int .i64 0, .bool false] 46)
        replace hb := below_al hb (.cells #[.int .i64 0, .bool false] 46)
        replace hom := hom.alloc (.cells #[.int .i64 0, .bool false] 46)
        refine hK.out _ _ ⟨kM, kL⟩ (fun hS' => ?_)
        clear hS' hK K
        (try simp only [List.getElem_toArray, List.getElem_cons_succ, List.getElem_cons_zero, Act.put, List.setIfInBounds_toArray, List.set_cons_zero, List.set_cons_succ])
        generalize wl18.alloc (.cells #[.int .i64 0, .bool false] 46) = wl21 at *
        generalize wl18.heap.size = bR at *
        refine wpAnyH_ready (rs := [5]) (by kernel_rfl) (by simp) ?_
        refine (AllReadyH.cons (o := _) rfl (fun K hK => ?_) AllReadyH.nil)
        (try simp only [List.getElem_toArray, List.getElem_cons_succ, List.getElem_cons_zero])
        go_simp
        have hsl := own_sl hom rfl
        (with_reducible refine (do_ok (some ⟨g, 0, none⟩) cap zs ⟨2, taskAt l t 0, 0, 1⟩ _ hsl (by omega) HE.out).mono ?_)
        rintro e wl22 ⟨g2, cap2, rfl, hown2, hb'⟩
        replace kM := kM.keep hb'
        replace kL := kL.keep hb'
        replace hown2 : OwnInts wl22 0 (.slice (some ⟨g2, 0, none⟩) zs.length cap2) ((⟨2, taskAt l t 0, 0, 1⟩ : Acc).make zs) := own_lower hown2 (Nat.zero_le _)
        replace kN := kN.keep hb'
        replace kR := kR.keep hb'
        replace hb := below_tr hb hb'
        clear hb' hsl hom
        obtain ⟨had, hhad⟩ : ∃ z, (⟨2, taskAt l t 0, 0, 1⟩ : Acc).had zs = z := ⟨_, rfl⟩
        obtain ⟨gok, hgok⟩ : ∃ z, (⟨2, taskAt l t 0, 0, 1⟩ : Acc).ok had = z := ⟨_, rfl⟩
        rw [hhad, hgok]
        clear hhad hgok
        refine hK.out _ _ ⟨kM, kL⟩ (fun hS' => ?_)
        clear hS' hK K
        (try simp only [List.getElem_toArray, List.getElem_cons_succ, List.getElem_cons_zero, Act.put, List.setIfInBounds_toArray, List.set_cons_zero, List.set_cons_succ])
        refine wpAnyH_take (i := 6) (oi := _) (v := .tuple #[memV (some ⟨g2, 0, none⟩) zs.length cap2, resV had gok, .int .i64 0]) rfl (by kernel_rfl) (by kernel_rfl) (by kernel_rfl) (fun _ _ _ h => HQ.out _ _ _ _ _ h) (Or.inl ⟨by rfl, ?_⟩) ⟨kM, kL⟩ ?_
        · intro w' hSw
          (try simp only [List.getElem_toArray, List.getElem_cons_succ, List.getElem_cons_zero])
          go_simp
        (try simp only [List.getElem_toArray, List.getElem_cons_succ, List.getElem_cons_zero, Act.put, List.setIfInBounds_toArray, List.set_cons_zero, List.set_cons_succ])
        refine wpAnyH_take (i := 7) (oi := _) (v := memV (some ⟨g2, 0, none⟩) zs.length cap2) rfl (by kernel_rfl) (by kernel_rfl) (by kernel_rfl) (fun _ _ _ h => HQ.out _ _ _ _ _ h) (Or.inl ⟨by rfl, ?_⟩) ⟨kM, kL⟩ ?_
        · intro w' hSw
          (try simp only [List.getElem_toArray, List.getElem_cons_succ, List.getElem_cons_zero])
          go_simp
        (try simp only [List.getElem_toArray, List.getElem_cons_succ, List.getElem_cons_zero, Act.put, List.setIfInBounds_toArray, List.set_cons_zero, List.set_cons_succ])
        refine wpAnyH_take (i := 8) (oi := _) (v := resV had gok) rfl (by kernel_rfl) (by kernel_rfl) (by kernel_rfl) (fun _ _ _ h => HQ.out _ _ _ _ _ h) (Or.inl ⟨by rfl, ?_⟩) ⟨kM, kL⟩ ?_
        · intro w' hSw
          (try simp only [List.getElem_toArray, List.getElem_cons_succ, List.getElem_cons_zero])
          go_simp
        (try simp only [List.getElem_toArray, List.getElem_cons_succ, List.getElem_cons_zero, Act.put, List.setIfInBounds_toArray, List.set_cons_zero, List.set_cons_succ])
        refine wpAnyH_take (i := 9) (oi := _) (v := .int .i64 0) rfl (by kernel_rfl) (by kernel_rfl) (by kernel_rfl) (fun _ _ _ h => HQ.out _ _ _ _ _ h) (Or.inl ⟨by rfl, ?_⟩) ⟨kM, kL⟩ ?_
        · intro w' hSw
          (try simp only [List.getElem_toArray, List.getElem_cons_succ, List.getElem_cons_zero])
          go_simp
        (try simp only [List.getElem_toArray, List.getElem_cons_succ, List.getElem_cons_zero, Act.put, List.setIfInBounds_toArray, List.set_cons_zero, List.set_cons_succ])
        have q1 := kN.cell 0
        have f1 := kN.free 0
        have l1 := kN.lt
        simp at q1
        refine wpAnyH_ready (rs := [12]) (by kernel_rfl) (by simp) ?_
        refine AllReadyH.cons (o := _) rfl (fun K hK => ?_) AllReadyH.nil
        (try simp only [List.getElem_toArray, List.getElem_cons_succ, List.getElem_cons_zero])
        go_simp
        clear q1 f1 l1
        have kN2 : Bk (wl22.setCell ⟨bM, 0, none⟩ (.slice (some ⟨g2, 0, none⟩) zs.length cap2)) bM 39 #[.slice (some ⟨g2, 0, none⟩) zs.length cap2] := kN.stored 0 _
        replace hown2 := hown2.far (p := ⟨bM, 0, none⟩) (own_ne hown2 kN (by decide)) (.slice (some ⟨g2, 0, none⟩) zs.length cap2)
        replace kM := kM.other (p := ⟨bM, 0, none⟩) (by dsimp only; omega) (.slice (some ⟨g2, 0, none⟩) zs.length cap2)
        replace kL := kL.other (p := ⟨bM, 0, none⟩) (by dsimp only; omega) (.slice (some ⟨g2, 0, none⟩) zs.length cap2)
        replace kR := kR.other (p := ⟨bM, 0, none⟩) (by dsimp only; omega) (.slice (some ⟨g2, 0, none⟩) zs.length cap2)
        replace hb := below_set hb (p := ⟨bM, 0, none⟩) (by dsimp only; omega) (.slice (some ⟨g2, 0, none⟩) zs.length cap2)
        refine hK.out _ _ ⟨kM, kL⟩ (fun hS' => ?_)
        clear hS' hK K
        (try simp only [List.getElem_toArray, List.getElem_cons_succ, List.getElem_cons_zero, Act.put, List.setIfInBounds_toArray, List.set_cons_zero, List.set_cons_succ])
        generalize wl22.setCell ⟨bM, 0, none⟩ (.slice (some ⟨g2, 0, none⟩) zs.length cap2) = ws1 at *
        have q1 := kR.cell 0
        have q2 := kR.cell 1
        have f1 := kR.free 0
        have f2 := kR.free 1
        have l1 := kR.lt
        simp at q1 q2
        refine wpAnyH_ready (rs := [13]) (by kernel_rfl) (by simp) ?_
        refine AllReadyH.cons (o := _) rfl (fun K hK => ?_) AllReadyH.nil
        (try simp only [List.getElem_toArray, List.getElem_cons_succ, List.getElem_cons_zero])
        go_simp
        clear q1 q2 f1 f2 l1
        replace hown2 := (hown2.far (p := ⟨bR, 0, none⟩) (own_ne hown2 kR (by decide)) (.int .i64 had)).far (p := ⟨bR, 1, none⟩) (own_ne hown2 kR (by decide)) (.bool gok)
        replace kN2 := (kN2.other (p := ⟨bR, 0, none⟩) (by dsimp only; omega) (.int .i64 had)).other (p := ⟨bR, 1, none⟩) (by dsimp only; omega) (.bool gok)
        replace kM := (kM.other (p := ⟨bR, 0, none⟩) (by dsimp only; omega) (.int .i64 had)).other (p := ⟨bR, 1, none⟩) (by dsimp only; omega) (.bool gok)
        replace kL := (kL.other (p := ⟨bR, 0, none⟩) (by dsimp only; omega) (.int .i64 had)).other (p := ⟨bR, 1, none⟩) (by dsimp only; omega) (.bool gok)
        replace hb := below_set (below_set hb (p := ⟨bR, 0, none⟩) (by dsimp only; omega) (.int .i64 had)) (p := ⟨bR, 1, none⟩) (by dsimp only; omega) (.bool gok)
        refine hK.out _ _ ⟨kM, kL⟩ (fun hS' => ?_)
        clear hS' hK K
        (try simp only [List.getElem_toArray, List.getElem_cons_succ, List.getElem_cons_zero, Act.put, List.setIfInBounds_toArray, List.set_cons_zero, List.set_cons_succ])
        refine wpAnyH_take (i := 14) (oi := _) (v := .int .i64 0) rfl (by kernel_rfl) (by kernel_rfl) (by kernel_rfl) (fun _ _ _ h => HQ.out _ _ _ _ _ h) (Or.inl ⟨by rfl, ?_⟩) ⟨kM, kL⟩ ?_
        · intro w' hSw
          (try simp only [List.getElem_toArray, List.getElem_cons_succ, List.getElem_cons_zero])
          go_simp
        (try simp only [List.getElem_toArray, List.getElem_cons_succ, List.getElem_cons_zero, Act.put, List.setIfInBounds_toArray, List.set_cons_zero, List.set_cons_succ])
        refine wpAnyH_done (by kernel_rfl) ?_ _
        exact HK.out _ _ _ _ _ _ _ _ _ _ _ _ bM g2 cap2 _ hb kN2 hown2
    · (try simp only [List.getElem_toArray, List.getElem_cons_succ, List.getElem_cons_zero])
      go_simp
      have kR := Bk.made wl17 46 #[.int .i64 0, .bool false]
      have zbR : w.heap.size ≤ wl17.heap.size := hb.size
      have zmbR := kM.lt
      have zlbR := kL.lt
      have zr := kN.lt
      replace kN := kN.alloc (.cells #[.int .i64 0, .bool false] 46)
      replace kM := kM.alloc (.cells #[.int .i64 0, .bool false] 46)
      replace kL := kL.alloc (.cells #[.int .i64 0, .bool false] 46)
      replace hb := below_al hb (.cells #[.int .i64 0, .bool false] 46)
      replace hom := hom.alloc (.cells #[.int .i64 0, .bool false] 46)
      refine hK.out _ _ ⟨kM, kL⟩ (fun hS' => ?_)
      clear hS' hK K
      (try simp only [List.getElem_toArray, List.getElem_cons_succ, List.getElem_cons_zero, Act.put, List.setIfInBounds_toArray, List.set_cons_zero, List.set_cons_succ])
      generalize wl17.alloc (.cells #[.int .i64 0, .bool false] 46) = wl23 at *
      generalize wl17.heap.size = bR at *
      refine wpAnyH_ready (rs := [3]) (by kernel_rfl) (by simp) ?_
      refine (AllReadyH.cons (o := _) rfl (fun K hK => ?_) AllReadyH.nil)
      (try simp only [List.getElem_toArray, List.getElem_cons_succ, List.getElem_cons_zero])
      go_simp
      (with_reducible refine (task_any l t 0 _ HF.out (by omega)).mono ?_)
      rintro e wl24 ⟨rfl, hb'⟩
      replace kM := kM.keep hb'
      replace kL := kL.keep hb'
      replace hom : OwnInts wl24 0 (.slice (some ⟨g, 0, none⟩) zs.length cap) zs := own_keepb hom hb'
      replace kN := kN.keep hb'
      replace kR := kR.keep hb'
      replace hb := below_tr hb hb'
      clear hb'
      refine hK.out _ _ ⟨kM, kL⟩ (fun hS' => ?_)
      clear hS' hK K
      (try simp only [List.getElem_toArray, List.getElem_cons_succ, List.getElem_cons_zero, Act.put, List.setIfInBounds_toArray, List.set_cons_zero, List.set_cons_succ])
      refine wpAnyH_take (i := 4) (oi := _) (v := .agg #[.int .i64 2, .int .i64 (taskAt l t 0), .int .i64 0, .int .i64 1]) rfl (by kernel_rfl) (by kernel_rfl) (by kernel_rfl) (fun _ _ _ h => HQ.out _ _ _ _ _ h) (Or.inl ⟨by rfl, ?_⟩) ⟨kM, kL⟩ ?_
      · intro w' hSw
        (try simp only [List.getElem_toArray, List.getElem_cons_succ, List.getElem_cons_zero])
        go_simp
      (try simp only [List.getElem_toArray, List.getElem_cons_succ, List.getElem_cons_zero, Act.put, List.setIfInBounds_toArray, List.set_cons_zero, List.set_cons_succ])
      refine wpAnyH_ready (rs := [5]) (by kernel_rfl) (by simp) ?_
      refine (AllReadyH.cons (o := _) rfl (fun K hK => ?_) AllReadyH.nil)
      (try simp only [List.getElem_toArray, List.getElem_cons_succ, List.getElem_cons_zero])
      go_simp
      have hsl := own_sl hom rfl
      (with_reducible refine (do_ok (some ⟨g, 0, none⟩) cap zs ⟨2, taskAt l t 0, 0, 1⟩ _ hsl (by omega) HE.out).mono ?_)
      rintro e wl25 ⟨g2, cap2, rfl, hown2, hb'⟩
      replace kM := kM.keep hb'
      replace kL := kL.keep hb'
      replace hown2 : OwnInts wl25 0 (.slice (some ⟨g2, 0, none⟩) zs.length cap2) ((⟨2, taskAt l t 0, 0, 1⟩ : Acc).make zs) := own_lower hown2 (Nat.zero_le _)
      replace kN := kN.keep hb'
      replace kR := kR.keep hb'
      replace hb := below_tr hb hb'
      clear hb' hsl hom
      obtain ⟨had, hhad⟩ : ∃ z, (⟨2, taskAt l t 0, 0, 1⟩ : Acc).had zs = z := ⟨_, rfl⟩
      obtain ⟨gok, hgok⟩ : ∃ z, (⟨2, taskAt l t 0, 0, 1⟩ : Acc).ok had = z := ⟨_, rfl⟩
      rw [hhad, hgok]
      clear hhad hgok
      refine hK.out _ _ ⟨kM, kL⟩ (fun hS' => ?_)
      clear hS' hK K
      (try simp only [List.getElem_toArray, List.getElem_cons_succ, List.getElem_cons_zero, Act.put, List.setIfInBounds_toArray, List.set_cons_zero, List.set_cons_succ])
      refine wpAnyH_take (i := 6) (oi := _) (v := .tuple #[memV (some ⟨g2, 0, none⟩) zs.length cap2, resV had gok, .int .i64 0]) rfl (by kernel_rfl) (by kernel_rfl) (by kernel_rfl) (fun _ _ _ h => HQ.out _ _ _ _ _ h) (Or.inl ⟨by rfl, ?_⟩) ⟨kM, kL⟩ ?_
      · intro w' hSw
        (try simp only [List.getElem_toArray, List.getElem_cons_succ, List.getElem_cons_zero])
        go_simp
      (try simp only [List.getElem_toArray, List.getElem_cons_succ, List.getElem_cons_zero, Act.put, List.setIfInBounds_toArray, List.set_cons_zero, List.set_cons_succ])
      refine wpAnyH_take (i := 7) (oi := _) (v := memV (some ⟨g2, 0, none⟩) zs.length cap2) rfl (by kernel_rfl) (by kernel_rfl) (by kernel_rfl) (fun _ _ _ h => HQ.out _ _ _ _ _ h) (Or.inl ⟨by rfl, ?_⟩) ⟨kM, kL⟩ ?_
      · intro w' hSw
        (try simp only [List.getElem_toArray, List.getElem_cons_succ, List.getElem_cons_zero])
        go_simp
      (try simp only [List.getElem_toArray, List.getElem_cons_succ, List.getElem_cons_zero, Act.put, List.setIfInBounds_toArray, List.set_cons_zero, List.set_cons_succ])
      refine wpAnyH_take (i := 8) (oi := _) (v := resV had gok) rfl (by kernel_rfl) (by kernel_rfl) (by kernel_rfl) (fun _ _ _ h => HQ.out _ _ _ _ _ h) (Or.inl ⟨by rfl, ?_⟩) ⟨kM, kL⟩ ?_
      · intro w' hSw
        (try simp only [List.getElem_toArray, List.getElem_cons_succ, List.getElem_cons_zero])
        go_simp
      (try simp only [List.getElem_toArray, List.getElem_cons_succ, List.getElem_cons_zero, Act.put, List.setIfInBounds_toArray, List.set_cons_zero, List.set_cons_succ])
      refine wpAnyH_take (i := 9) (oi := _) (v := .int .i64 0) rfl (by kernel_rfl) (by kernel_rfl) (by kernel_rfl) (fun _ _ _ h => HQ.out _ _ _ _ _ h) (Or.inl ⟨by rfl, ?_⟩) ⟨kM, kL⟩ ?_
      · intro w' hSw
        (try simp only [List.getElem_toArray, List.getElem_cons_succ, List.getElem_cons_zero])
        go_simp
      (try simp only [List.getElem_toArray, List.getElem_cons_succ, List.getElem_cons_zero, Act.put, List.setIfInBounds_toArray, List.set_cons_zero, List.set_cons_succ])
      have q1 := kN.cell 0
      have f1 := kN.free 0
      have l1 := kN.lt
      simp at q1
      refine wpAnyH_ready (rs := [12]) (by kernel_rfl) (by simp) ?_
      refine AllReadyH.cons (o := _) rfl (fun K hK => ?_) AllReadyH.nil
      (try simp only [List.getElem_toArray, List.getElem_cons_succ, List.getElem_cons_zero])
      go_simp
      clear q1 f1 l1
      have kN2 : Bk (wl25.setCell ⟨bM, 0, none⟩ (.slice (some ⟨g2, 0, none⟩) zs.length cap2)) bM 39 #[.slice (some ⟨g2, 0, none⟩) zs.length cap2] := kN.stored 0 _
      replace hown2 := hown2.far (p := ⟨bM, 0, none⟩) (own_ne hown2 kN (by decide)) (.slice (some ⟨g2, 0, none⟩) zs.length cap2)
      replace kM := kM.other (p := ⟨bM, 0, none⟩) (by dsimp only; omega) (.slice (some ⟨g2, 0, none⟩) zs.length cap2)
      replace kL := kL.other (p := ⟨bM, 0, none⟩) (by dsimp only; omega) (.slice (some ⟨g2, 0, none⟩) zs.length cap2)
      replace kR := kR.other (p := ⟨bM, 0, none⟩) (by dsimp only; omega) (.slice (some ⟨g2, 0, none⟩) zs.length cap2)
      replace hb := below_set hb (p := ⟨bM, 0, none⟩) (by dsimp only; omega) (.slice (some ⟨g2, 0, none⟩) zs.length cap2)
      refine hK.out _ _ ⟨kM, kL⟩ (fun hS' => ?_)
      clear hS' hK K
      (try simp only [List.getElem_toArray, List.getElem_cons_succ, List.getElem_cons_zero, Act.put, List.setIfInBounds_toArray, List.set_cons_zero, List.set_cons_succ])
      generalize wl25.setCell ⟨bM, 0, none⟩ (.slice (some ⟨g2, 0, none⟩) zs.length cap2) = ws1 at *
      have q1 := kR.cell 0
      have q2 := kR.cell 1
      have f1 := kR.free 0
      have f2 := kR.free 1
      have l1 := kR.lt
      simp at q1 q2
      refine wpAnyH_ready (rs := [13]) (by kernel_rfl) (by simp) ?_
      refine AllReadyH.cons (o := _) rfl (fun K hK => ?_) AllReadyH.nil
      (try simp only [List.getElem_toArray, List.getElem_cons_succ, List.getElem_cons_zero])
      go_simp
      clear q1 q2 f1 f2 l1
      replace hown2 := (hown2.far (p := ⟨bR, 0, none⟩) (own_ne hown2 kR (by decide)) (.int .i64 had)).far (p := ⟨bR, 1, none⟩) (own_ne hown2 kR (by decide)) (.bool gok)
      replace kN2 := (kN2.other (p := ⟨bR, 0, none⟩) (by dsimp only; omega) (.int .i64 had)).other (p := ⟨bR, 1, none⟩) (by dsimp only; omega) (.bool gok)
      replace kM := (kM.other (p := ⟨bR, 0, none⟩) (by dsimp only; omega) (.int .i64 had)).other (p := ⟨bR, 1, none⟩) (by dsimp only; omega) (.bool gok)
      replace kL := (kL.other (p := ⟨bR, 0, none⟩) (by dsimp only; omega) (.int .i64 had)).other (p := ⟨bR, 1, none⟩) (by dsimp only; omega) (.bool gok)
      replace hb := below_set (below_set hb (p := ⟨bR, 0, none⟩) (by dsimp only; omega) (.int .i64 had)) (p := ⟨bR, 1, none⟩) (by dsimp only; omega) (.bool gok)
      refine hK.out _ _ ⟨kM, kL⟩ (fun hS' => ?_)
      clear hS' hK K
      (try simp only [List.getElem_toArray, List.getElem_cons_succ, List.getElem_cons_zero, Act.put, List.setIfInBounds_toArray, List.set_cons_zero, List.set_cons_succ])
      refine wpAnyH_take (i := 14) (oi := _) (v := .int .i64 0) rfl (by kernel_rfl) (by kernel_rfl) (by kernel_rfl) (fun _ _ _ h => HQ.out _ _ _ _ _ h) (Or.inl ⟨by rfl, ?_⟩) ⟨kM, kL⟩ ?_
      · intro w' hSw
        (try simp only [List.getElem_toArray, List.getElem_cons_succ, List.getElem_cons_zero])
        go_simp
      (try simp only [List.getElem_toArray, List.getElem_cons_succ, List.getElem_cons_zero, Act.put, List.setIfInBounds_toArray, List.set_cons_zero, List.set_cons_succ])
      refine wpAnyH_done (by kernel_rfl) ?_ _
      exact HK.out _ _ _ _ _ _ _ _ _ _ _ _ bM g2 cap2 _ hb kN2 hown2
  · (try simp only [List.getElem_toArray, List.getElem_cons_succ, List.getElem_cons_zero])
    go_simp
    have kR := Bk.made wl0 46 #[.int .i64 0, .bool false]
    have zbR : w.heap.size ≤ wl0.heap.size := hb.size
    have zmbR := kM.lt
    have zlbR := kL.lt
    replace kM := kM.alloc (.cells #[.int .i64 0, .bool false] 46)
    replace kL := kL.alloc (.cells #[.int .i64 0, .bool false] 46)
    replace hb := below_al hb (.cells #[.int .i64 0, .bool false] 46)
    replace hom := hom.alloc (.cells #[.int .i64 0, .bool false] 46)
    refine hK.out _ _ ⟨kM, kL⟩ (fun hS' => ?_)
    clear hS' hK K
    (try simp only [List.getElem_toArray, List.getElem_cons_succ, List.getElem_cons_zero, Act.put, List.setIfInBounds_toArray, List.set_cons_zero, List.set_cons_succ])
    generalize wl0.alloc (.cells #[.int .i64 0, .bool false] 46) = wl26 at *
    generalize wl0.heap.size = bR at *
    refine wpAnyH_ready (rs := [3, 10]) (by kernel_rfl) (by simp) ?_
    refine (AllReadyH.cons (o := _) rfl (fun K hK => ?_) (AllReadyH.cons (o := _) rfl (fun K hK => ?_) AllReadyH.nil))
    · (try simp only [List.getElem_toArray, List.getElem_cons_succ, List.getElem_cons_zero])
      go_simp
      (with_reducible refine (task_any l t 0 _ HF.out (by omega)).mono ?_)
      rintro e wl27 ⟨rfl, hb'⟩
      replace kM := kM.keep hb'
      replace kL := kL.keep hb'
      replace hom : OwnInts wl27 0 (.slice (some ⟨g, 0, none⟩) zs.length cap) zs := own_keepb hom hb'
      replace kR := kR.keep hb'
      replace hb := below_tr hb hb'
      clear hb'
      refine hK.out _ _ ⟨kM, kL⟩ (fun hS' => ?_)
      clear hS' hK K
      (try simp only [List.getElem_toArray, List.getElem_cons_succ, List.getElem_cons_zero, Act.put, List.setIfInBounds_toArray, List.set_cons_zero, List.set_cons_succ])
      refine wpAnyH_take (i := 4) (oi := _) (v := .agg #[.int .i64 2, .int .i64 (taskAt l t 0), .int .i64 0, .int .i64 1]) rfl (by kernel_rfl) (by kernel_rfl) (by kernel_rfl) (fun _ _ _ h => HQ.out _ _ _ _ _ h) (Or.inl ⟨by rfl, ?_⟩) ⟨kM, kL⟩ ?_
      · intro w' hSw
        (try simp only [List.getElem_toArray, List.getElem_cons_succ, List.getElem_cons_zero])
        go_simp
      (try simp only [List.getElem_toArray, List.getElem_cons_succ, List.getElem_cons_zero, Act.put, List.setIfInBounds_toArray, List.set_cons_zero, List.set_cons_succ])
      refine wpAnyH_ready (rs := [5, 10]) (by kernel_rfl) (by simp) ?_
      refine (AllReadyH.cons (o := _) rfl (fun K hK => ?_) (AllReadyH.cons (o := _) rfl (fun K hK => ?_) AllReadyH.nil))
      · (try simp only [List.getElem_toArray, List.getElem_cons_succ, List.getElem_cons_zero])
        go_simp
        have hsl := own_sl hom rfl
        (with_reducible refine (do_ok (some ⟨g, 0, none⟩) cap zs ⟨2, taskAt l t 0, 0, 1⟩ _ hsl (by omega) HE.out).mono ?_)
        rintro e wl28 ⟨g2, cap2, rfl, hown2, hb'⟩
        replace kM := kM.keep hb'
        replace kL := kL.keep hb'
        replace hown2 : OwnInts wl28 0 (.slice (some ⟨g2, 0, none⟩) zs.length cap2) ((⟨2, taskAt l t 0, 0, 1⟩ : Acc).make zs) := own_lower hown2 (Nat.zero_le _)
        replace kR := kR.keep hb'
        replace hb := below_tr hb hb'
        clear hb' hsl hom
        obtain ⟨had, hhad⟩ : ∃ z, (⟨2, taskAt l t 0, 0, 1⟩ : Acc).had zs = z := ⟨_, rfl⟩
        obtain ⟨gok, hgok⟩ : ∃ z, (⟨2, taskAt l t 0, 0, 1⟩ : Acc).ok had = z := ⟨_, rfl⟩
        rw [hhad, hgok]
        clear hhad hgok
        refine hK.out _ _ ⟨kM, kL⟩ (fun hS' => ?_)
        clear hS' hK K
        (try simp only [List.getElem_toArray, List.getElem_cons_succ, List.getElem_cons_zero, Act.put, List.setIfInBounds_toArray, List.set_cons_zero, List.set_cons_succ])
        refine wpAnyH_take (i := 6) (oi := _) (v := .tuple #[memV (some ⟨g2, 0, none⟩) zs.length cap2, resV had gok, .int .i64 0]) rfl (by kernel_rfl) (by kernel_rfl) (by kernel_rfl) (fun _ _ _ h => HQ.out _ _ _ _ _ h) (Or.inl ⟨by rfl, ?_⟩) ⟨kM, kL⟩ ?_
        · intro w' hSw
          (try simp only [List.getElem_toArray, List.getElem_cons_succ, List.getElem_cons_zero])
          go_simp
        (try simp only [List.getElem_toArray, List.getElem_cons_succ, List.getElem_cons_zero, Act.put, List.setIfInBounds_toArray, List.set_cons_zero, List.set_cons_succ])
        refine wpAnyH_take (i := 7) (oi := _) (v := memV (some ⟨g2, 0, none⟩) zs.length cap2) rfl (by kernel_rfl) (by kernel_rfl) (by kernel_rfl) (fun _ _ _ h => HQ.out _ _ _ _ _ h) (Or.inl ⟨by rfl, ?_⟩) ⟨kM, kL⟩ ?_
        · intro w' hSw
          (try simp only [List.getElem_toArray, List.getElem_cons_succ, List.getElem_cons_zero])
          go_simp
        (try simp only [List.getElem_toArray, List.getElem_cons_succ, List.getElem_cons_zero, Act.put, List.setIfInBounds_toArray, List.set_cons_zero, List.set_cons_succ])
        refine wpAnyH_take (i := 8) (oi := _) (v := resV had gok) rfl (by kernel_rfl) (by kernel_rfl) (by kernel_rfl) (fun _ _ _ h => HQ.out _ _ _ _ _ h) (Or.inl ⟨by rfl, ?_⟩) ⟨kM, kL⟩ ?_
        · intro w' hSw
          (try simp only [List.getElem_toArray, List.getElem_cons_succ, List.getElem_cons_zero])
          go_simp
        (try simp only [List.getElem_toArray, List.getElem_cons_succ, List.getElem_cons_zero, Act.put, List.setIfInBounds_toArray, List.set_cons_zero, List.set_cons_succ])
        refine wpAnyH_take (i := 9) (oi := _) (v := .int .i64 0) rfl (by kernel_rfl) (by kernel_rfl) (by kernel_rfl) (fun _ _ _ h => HQ.out _ _ _ _ _ h) (Or.inl ⟨by rfl, ?_⟩) ⟨kM, kL⟩ ?_
        · intro w' hSw
          (try simp only [List.getElem_toArray, List.getElem_cons_succ, List.getElem_cons_zero])
          go_simp
        (try simp only [List.getElem_toArray, List.getElem_cons_succ, List.getElem_cons_zero, Act.put, List.setIfInBounds_toArray, List.set_cons_zero, List.set_cons_succ])
        refine wpAnyH_ready (rs := [10]) (by kernel_rfl) (by simp) ?_
        refine (AllReadyH.cons (o := _) rfl (fun K hK => ?_) AllReadyH.nil)
        (try simp only [List.getElem_toArray, List.getElem_cons_succ, List.getElem_cons_zero])
        go_simp
        have kN := Bk.made wl28 39 #[.slice none 0 0]
        have zbM : w.heap.size ≤ wl28.heap.size := hb.size
        have zmbM := kM.lt
        have zlbM := kL.lt
        have zr := kR.lt
        replace kR := kR.alloc (.cells #[.slice none 0 0] 39)
        replace kM := kM.alloc (.cells #[.slice none 0 0] 39)
        replace kL := kL.alloc (.cells #[.slice none 0 0] 39)
        replace hb := below_al hb (.cells #[.slice none 0 0] 39)
        replace hown2 := hown2.alloc (.cells #[.slice none 0 0] 39)
        refine hK.out _ _ ⟨kM, kL⟩ (fun hS' => ?_)
        clear hS' hK K
        (try simp only [List.getElem_toArray, List.getElem_cons_succ, List.getElem_cons_zero, Act.put, List.setIfInBounds_toArray, List.set_cons_zero, List.set_cons_succ])
        generalize wl28.alloc (.cells #[.slice none 0 0] 39) = wl29 at *
        generalize wl28.heap.size = bM at *
        have q1 := kN.cell 0
        have f1 := kN.free 0
        have l1 := kN.lt
        simp at q1
        refine wpAnyH_ready (rs := [12]) (by kernel_rfl) (by simp) ?_
        refine AllReadyH.cons (o := _) rfl (fun K hK => ?_) AllReadyH.nil
        (try simp only [List.getElem_toArray, List.getElem_cons_succ, List.getElem_cons_zero])
        go_simp
        clear q1 f1 l1
        have kN2 : Bk (wl29.setCell ⟨bM, 0, none⟩ (.slice (some ⟨g2, 0, none⟩) zs.length cap2)) bM 39 #[.slice (some ⟨g2, 0, none⟩) zs.length cap2] := kN.stored 0 _
        replace hown2 := hown2.far (p := ⟨bM, 0, none⟩) (own_ne hown2 kN (by decide)) (.slice (some ⟨g2, 0, none⟩) zs.length cap2)
        replace kM := kM.other (p := ⟨bM, 0, none⟩) (by dsimp only; omega) (.slice (some ⟨g2, 0, none⟩) zs.length cap2)
        replace kL := kL.other (p := ⟨bM, 0, none⟩) (by dsimp only; omega) (.slice (some ⟨g2, 0, none⟩) zs.length cap2)
        replace kR := kR.other (p := ⟨bM, 0, none⟩) (by dsimp only; omega) (.slice (some ⟨g2, 0, none⟩) zs.length cap2)
        replace hb := below_set hb (p := ⟨bM, 0, none⟩) (by dsimp only; omega) (.slice (some ⟨g2, 0, none⟩) zs.length cap2)
        refine hK.out _ _ ⟨kM, kL⟩ (fun hS' => ?_)
        clear hS' hK K
        (try simp only [List.getElem_toArray, List.getElem_cons_succ, List.getElem_cons_zero, Act.put, List.setIfInBounds_toArray, List.set_cons_zero, List.set_cons_succ])
        generalize wl29.setCell ⟨bM, 0, none⟩ (.slice (some ⟨g2, 0, none⟩) zs.length cap2) = ws1 at *
        have q1 := kR.cell 0
        have q2 := kR.cell 1
        have f1 := kR.free 0
        have f2 := kR.free 1
        have l1 := kR.lt
        simp at q1 q2
        refine wpAnyH_ready (rs := [13]) (by kernel_rfl) (by simp) ?_
        refine AllReadyH.cons (o := _) rfl (fun K hK => ?_) AllReadyH.nil
        (try simp only [List.getElem_toArray, List.getElem_cons_succ, List.getElem_cons_zero])
        go_simp
        clear q1 q2 f1 f2 l1
        replace hown2 := (hown2.far (p := ⟨bR, 0, none⟩) (own_ne hown2 kR (by decide)) (.int .i64 had)).far (p := ⟨bR, 1, none⟩) (own_ne hown2 kR (by decide)) (.bool gok)
        replace kN2 := (kN2.other (p := ⟨bR, 0, none⟩) (by dsimp only; omega) (.int .i64 had)).other (p := ⟨bR, 1, none⟩) (by dsimp only; omega) (.bool gok)
        replace kM := (kM.other (p := ⟨bR, 0, none⟩) (by dsimp only; omega) (.int .i64 had)).other (p := ⟨bR, 1, none⟩) (by dsimp only; omega) (.bool gok)
        replace kL := (kL.other (p := ⟨bR, 0, none⟩) (by dsimp only; omega) (.int .i64 had)).other (p := ⟨bR, 1, none⟩) (by dsimp only; omega) (.bool gok)
        replace hb := below_set (below_set hb (p := ⟨bR, 0, none⟩) (by dsimp only; omega) (.int .i64 had)) (p := ⟨bR, 1, none⟩) (by dsimp only; omega) (.bool gok)
        refine hK.out _ _ ⟨kM, kL⟩ (fun hS' => ?_)
        clear hS' hK K
        (try simp only [List.getElem_toArray, List.getElem_cons_succ, List.getElem_cons_zero, Act.put, List.setIfInBounds_toArray, List.set_cons_zero, List.set_cons_succ])
        refine wpAnyH_take (i := 14) (oi := _) (v := .int .i64 0) rfl (by kernel_rfl) (by kernel_rfl) (by kernel_rfl) (fun _ _ _ h => HQ.out _ _ _ _ _ h) (Or.inl ⟨by rfl, ?_⟩) ⟨kM, kL⟩ ?_
        · intro w' hSw
          (try simp only [List.getElem_toArray, List.getElem_cons_succ, List.getElem_cons_zero])
          go_simp
        (try simp only [List.getElem_toArray, List.getElem_cons_succ, List.getElem_cons_zero, Act.put, List.setIfInBounds_toArray, List.set_cons_zero, List.set_cons_succ])
        refine wpAnyH_done (by kernel_rfl) ?_ _
        exact HK.out _ _ _ _ _ _ _ _ _ _ _ _ bM g2 cap2 _ hb kN2 hown2
      · (try simp only [List.getElem_toArray, List.getElem_cons_succ, List.getElem_cons_zero])
        go_simp
        have kN := Bk.made wl27 39 #[.slice none 0 0]
        have zbM : w.heap.size ≤ wl27.heap.size := hb.size
        have zmbM := kM.lt
        have zlbM := kL.lt
        have zr := kR.lt
        replace kR := kR.alloc (.cells #[.slice none 0 0] 39)
        replace kM := kM.alloc (.cells #[.slice none 0 0] 39)
        replace kL := kL.alloc (.cells #[.slice none 0 0] 39)
        replace hb := below_al hb (.cells #[.slice none 0 0] 39)
        replace hom := hom.alloc (.cells #[.slice none 0 0] 39)
        refine hK.out _ _ ⟨kM, kL⟩ (fun hS' => ?_)
        clear hS' hK K
        (try simp only [List.getElem_toArray, List.getElem_cons_succ, List.getElem_cons_zero, Act.put, List.setIfInBounds_toArray, List.set_cons_zero, List.set_cons_succ])
        generalize wl27.alloc (.cells #[.slice none 0 0] 39) = wl30 at *
        generalize wl27.heap.size = bM at *
        refine wpAnyH_ready (rs := [5]) (by kernel_rfl) (by simp) ?_
        refine (AllReadyH.cons (o := _) rfl (fun K hK => ?_) AllReadyH.nil)
        (try simp only [List.getElem_toArray, List.getElem_cons_succ, List.getElem_cons_zero])
        go_simp
        have hsl := own_sl hom rfl
        (with_reducible refine (do_ok (some ⟨g, 0, none⟩) cap zs ⟨2, taskAt l t 0, 0, 1⟩ _ hsl (by omega) HE.out).mono ?_)
        rintro e wl31 ⟨g2, cap2, rfl, hown2, hb'⟩
        replace kM := kM.keep hb'
        replace kL := kL.keep hb'
        replace hown2 : OwnInts wl31 0 (.slice (some ⟨g2, 0, none⟩) zs.length cap2) ((⟨2, taskAt l t 0, 0, 1⟩ : Acc).make zs) := own_lower hown2 (Nat.zero_le _)
        replace kN := kN.keep hb'
        replace kR := kR.keep hb'
        replace hb := below_tr hb hb'
        clear hb' hsl hom
        obtain ⟨had, hhad⟩ : ∃ z, (⟨2, taskAt l t 0, 0, 1⟩ : Acc).had zs = z := ⟨_, rfl⟩
        obtain ⟨gok, hgok⟩ : ∃ z, (⟨2, taskAt l t 0, 0, 1⟩ : Acc).ok had = z := ⟨_, rfl⟩
        rw [hhad, hgok]
        clear hhad hgok
        refine hK.out _ _ ⟨kM, kL⟩ (fun hS' => ?_)
        clear hS' hK K
        (try simp only [List.getElem_toArray, List.getElem_cons_succ, List.getElem_cons_zero, Act.put, List.setIfInBounds_toArray, List.set_cons_zero, List.set_cons_succ])
        refine wpAnyH_take (i := 6) (oi := _) (v := .tuple #[memV (some ⟨g2, 0, none⟩) zs.length cap2, resV had gok, .int .i64 0]) rfl (by kernel_rfl) (by kernel_rfl) (by kernel_rfl) (fun _ _ _ h => HQ.out _ _ _ _ _ h) (Or.inl ⟨by rfl, ?_⟩) ⟨kM, kL⟩ ?_
        · intro w' hSw
          (try simp only [List.getElem_toArray, List.getElem_cons_succ, List.getElem_cons_zero])
          go_simp
        (try simp only [List.getElem_toArray, List.getElem_cons_succ, List.getElem_cons_zero, Act.put, List.setIfInBounds_toArray, List.set_cons_zero, List.set_cons_succ])
        refine wpAnyH_take (i := 7) (oi := _) (v := memV (some ⟨g2, 0, none⟩) zs.length cap2) rfl (by kernel_rfl) (by kernel_rfl) (by kernel_rfl) (fun _ _ _ h => HQ.out _ _ _ _ _ h) (Or.inl ⟨by rfl, ?_⟩) ⟨kM, kL⟩ ?_
        · intro w' hSw
          (try simp only [List.getElem_toArray, List.getElem_cons_succ, List.getElem_cons_zero])
          go_simp
        (try simp only [List.getElem_toArray, List.getElem_cons_succ, List.getElem_cons_zero, Act.put, List.setIfInBounds_toArray, List.set_cons_zero, List.set_cons_succ])
        refine wpAnyH_take (i := 8) (oi := _) (v := resV had gok) rfl (by kernel_rfl) (by kernel_rfl) (by kernel_rfl) (fun _ _ _ h => HQ.out _ _ _ _ _ h) (Or.inl ⟨by rfl, ?_⟩) ⟨kM, kL⟩ ?_
        · intro w' hSw
          (try simp only [List.getElem_toArray, List.getElem_cons_succ, List.getElem_cons_zero])
          go_simp
        (try simp only [List.getElem_toArray, List.getElem_cons_succ, List.getElem_cons_zero, Act.put, List.setIfInBounds_toArray, List.set_cons_zero, List.set_cons_succ])
        refine wpAnyH_take (i := 9) (oi := _) (v := .int .i64 0) rfl (by kernel_rfl) (by kernel_rfl) (by kernel_rfl) (fun _ _ _ h => HQ.out _ _ _ _ _ h) (Or.inl ⟨by rfl, ?_⟩) ⟨kM, kL⟩ ?_
        · intro w' hSw
          (try simp only [List.getElem_toArray, List.getElem_cons_succ, List.getElem_cons_zero])
          go_simp
        (try simp only [List.getElem_toArray, List.getElem_cons_succ, List.getElem_cons_zero, Act.put, List.setIfInBounds_toArray, List.set_cons_zero, List.set_cons_succ])
        have q1 := kN.cell 0
        have f1 := kN.free 0
        have l1 := kN.lt
        simp at q1
        refine wpAnyH_ready (rs := [12]) (by kernel_rfl) (by simp) ?_
        refine AllReadyH.cons (o := _) rfl (fun K hK => ?_) AllReadyH.nil
        (try simp only [List.getElem_toArray, List.getElem_cons_succ, List.getElem_cons_zero])
        go_simp
        clear q1 f1 l1
        have kN2 : Bk (wl31.setCell ⟨bM, 0, none⟩ (.slice (some ⟨g2, 0, none⟩) zs.length cap2)) bM 39 #[.slice (some ⟨g2, 0, none⟩) zs.length cap2] := kN.stored 0 _
        replace hown2 := hown2.far (p := ⟨bM, 0, none⟩) (own_ne hown2 kN (by decide)) (.slice (some ⟨g2, 0, none⟩) zs.length cap2)
        replace kM := kM.other (p := ⟨bM, 0, none⟩) (by dsimp only; omega) (.slice (some ⟨g2, 0, none⟩) zs.length cap2)
        replace kL := kL.other (p := ⟨bM, 0, none⟩) (by dsimp only; omega) (.slice (some ⟨g2, 0, none⟩) zs.length cap2)
        replace kR := kR.other (p := ⟨bM, 0, none⟩) (by dsimp only; omega) (.slice (some ⟨g2, 0, none⟩) zs.length cap2)
        replace hb := below_set hb (p := ⟨bM, 0, none⟩) (by dsimp only; omega) (.slice (some ⟨g2, 0, none⟩) zs.length cap2)
        refine hK.out _ _ ⟨kM, kL⟩ (fun hS' => ?_)
        clear hS' hK K
        (try simp only [List.getElem_toArray, List.getElem_cons_succ, List.getElem_cons_zero, Act.put, List.setIfInBounds_toArray, List.set_cons_zero, List.set_cons_succ])
        generalize wl31.setCell ⟨bM, 0, none⟩ (.slice (some ⟨g2, 0, none⟩) zs.length cap2) = ws1 at *
        have q1 := kR.cell 0
        have q2 := kR.cell 1
        have f1 := kR.free 0
        have f2 := kR.free 1
        have l1 := kR.lt
        simp at q1 q2
        refine wpAnyH_ready (rs := [13]) (by kernel_rfl) (by simp) ?_
        refine AllReadyH.cons (o := _) rfl (fun K hK => ?_) AllReadyH.nil
        (try simp only [List.getElem_toArray, List.getElem_cons_succ, List.getElem_cons_zero])
        go_simp
        clear q1 q2 f1 f2 l1
        replace hown2 := (hown2.far (p := ⟨bR, 0, none⟩) (own_ne hown2 kR (by decide)) (.int .i64 had)).far (p := ⟨bR, 1, none⟩) (own_ne hown2 kR (by decide)) (.bool gok)
        replace kN2 := (kN2.other (p := ⟨bR, 0, none⟩) (by dsimp only; omega) (.int .i64 had)).other (p := ⟨bR, 1, none⟩) (by dsimp only; omega) (.bool gok)
        replace kM := (kM.other (p := ⟨bR, 0, none⟩) (by dsimp only; omega) (.int .i64 had)).other (p := ⟨bR, 1, none⟩) (by dsimp only; omega) (.bool gok)
        replace kL := (kL.other (p := ⟨bR, 0, none⟩) (by dsimp only; omega) (.int .i64 had)).other (p := ⟨bR, 1, none⟩) (by dsimp only; omega) (.bool gok)
        replace hb := below_set (below_set hb (p := ⟨bR, 0, none⟩) (by dsimp only; omega) (.int .i64 had)) (p := ⟨bR, 1, none⟩) (by dsimp only; omega) (.bool gok)
        refine hK.out _ _ ⟨kM, kL⟩ (fun hS' => ?_)
        clear hS' hK K
        (try simp only [List.getElem_toArray, List.getElem_cons_succ, List.getElem_cons_zero, Act.put, List.setIfInBounds_toArray, List.set_cons_zero, List.set_cons_succ])
        refine wpAnyH_take (i := 14) (oi := _) (v := .int .i64 0) rfl (by kernel_rfl) (by kernel_rfl) (by kernel_rfl) (fun _ _ _ h => HQ.out _ _ _ _ _ h) (Or.inl ⟨by rfl, ?_⟩) ⟨kM, kL⟩ ?_
        · intro w' hSw
          (try simp only [List.getElem_toArray, List.getElem_cons_succ, List.getElem_cons_zero])
          go_simp
        (try simp only [List.getElem_toArray, List.getElem_cons_succ, List.getElem_cons_zero, Act.put, List.setIfInBounds_toArray, List.set_cons_zero, List.set_cons_succ])
        refine wpAnyH_done (by kernel_rfl) ?_ _
        exact HK.out _ _ _ _ _ _ _ _ _ _ _ _ bM g2 cap2 _ hb kN2 hown2
    · (try simp only [List.getElem_toArray, List.getElem_cons_succ, List.getElem_cons_zero])
      go_simp
      have kN := Bk.made wl26 39 #[.slice none 0 0]
      have zbM : w.heap.size ≤ wl26.heap.size := hb.size
      have zmbM := kM.lt
      have zlbM := kL.lt
      have zr := kR.lt
      replace kR := kR.alloc (.cells #[.slice none 0 0] 39)
      replace kM := kM.alloc (.cells #[.slice none 0 0] 39)
      replace kL := kL.alloc (.cells #[.slice none 0 0] 39)
      replace hb := below_al hb (.cells #[.slice none 0 0] 39)
      replace hom := hom.alloc (.cells #[.slice none 0 0] 39)
      refine hK.out _ _ ⟨kM, kL⟩ (fun hS' => ?_)
      clear hS' hK K
      (try simp only [List.getElem_toArray, List.getElem_cons_succ, List.getElem_cons_zero, Act.put, List.setIfInBounds_toArray, List.set_cons_zero, List.set_cons_succ])
      generalize wl26.alloc (.cells #[.slice none 0 0] 39) = wl32 at *
      generalize wl26.heap.size = bM at *
      refine wpAnyH_ready (rs := [3]) (by kernel_rfl) (by simp) ?_
      refine (AllReadyH.cons (o := _) rfl (fun K hK => ?_) AllReadyH.nil)
      (try simp only [List.getElem_toArray, List.getElem_cons_succ, List.getElem_cons_zero])
      go_simp
      (with_reducible refine (task_any l t 0 _ HF.out (by omega)).mono ?_)
      rintro e wl33 ⟨rfl, hb'⟩
      replace kM := kM.keep hb'
      replace kL := kL.keep hb'
      replace hom : OwnInts wl33 0 (.slice (some ⟨g, 0, none⟩) zs.length cap) zs := own_keepb hom hb'
      replace kN := kN.keep hb'
      replace kR := kR.keep hb'
      replace hb := below_tr hb hb'
      clear hb'
      refine hK.out _ _ ⟨kM, kL⟩ (fun hS' => ?_)
      clear hS' hK K
      (try simp only [List.getElem_toArray, List.getElem_cons_succ, List.getElem_cons_zero, Act.put, List.setIfInBounds_toArray, List.set_cons_zero, List.set_cons_succ])
      refine wpAnyH_take (i := 4) (oi := _) (v := .agg #[.int .i64 2, .int .i64 (taskAt l t 0), .int .i64 0, .int .i64 1]) rfl (by kernel_rfl) (by kernel_rfl) (by kernel_rfl) (fun _ _ _ h => HQ.out _ _ _ _ _ h) (Or.inl ⟨by rfl, ?_⟩) ⟨kM, kL⟩ ?_
      · intro w' hSw
        (try simp only [List.getElem_toArray, List.getElem_cons_succ, List.getElem_cons_zero])
        go_simp
      (try simp only [List.getElem_toArray, List.getElem_cons_succ, List.getElem_cons_zero, Act.put, List.setIfInBounds_toArray, List.set_cons_zero, List.set_cons_succ])
      refine wpAnyH_ready (rs := [5]) (by kernel_rfl) (by simp) ?_
      refine (AllReadyH.cons (o := _) rfl (fun K hK => ?_) AllReadyH.nil)
      (try simp only [List.getElem_toArray, List.getElem_cons_succ, List.getElem_cons_zero])
      go_simp
      have hsl := own_sl hom rfl
      (with_reducible refine (do_ok (some ⟨g, 0, none⟩) cap zs ⟨2, taskAt l t 0, 0, 1⟩ _ hsl (by omega) HE.out).mono ?_)
      rintro e wl34 ⟨g2, cap2, rfl, hown2, hb'⟩
      replace kM := kM.keep hb'
      replace kL := kL.keep hb'
      replace hown2 : OwnInts wl34 0 (.slice (some ⟨g2, 0, none⟩) zs.length cap2) ((⟨2, taskAt l t 0, 0, 1⟩ : Acc).make zs) := own_lower hown2 (Nat.zero_le _)
      replace kN := kN.keep hb'
      replace kR := kR.keep hb'
      replace hb := below_tr hb hb'
      clear hb' hsl hom
      obtain ⟨had, hhad⟩ : ∃ z, (⟨2, taskAt l t 0, 0, 1⟩ : Acc).had zs = z := ⟨_, rfl⟩
      obtain ⟨gok, hgok⟩ : ∃ z, (⟨2, taskAt l t 0, 0, 1⟩ : Acc).ok had = z := ⟨_, rfl⟩
      rw [hhad, hgok]
      clear hhad hgok
      refine hK.out _ _ ⟨kM, kL⟩ (fun hS' => ?_)
      clear hS' hK K
      (try simp only [List.getElem_toArray, List.getElem_cons_succ, List.getElem_cons_zero, Act.put, List.setIfInBounds_toArray, List.set_cons_zero, List.set_cons_succ])
      refine wpAnyH_take (i := 6) (oi := _) (v := .tuple #[memV (some ⟨g2, 0, none⟩) zs.length cap2, resV had gok, .int .i64 0]) rfl (by kernel_rfl) (by kernel_rfl) (by kernel_rfl) (fun _ _ _ h => HQ.out _ _ _ _ _ h) (Or.inl ⟨by rfl, ?_⟩) ⟨kM, kL⟩ ?_
      · intro w' hSw
        (try simp only [List.getElem_toArray, List.getElem_cons_succ, List.getElem_cons_zero])
        go_simp
      (try simp only [List.getElem_toArray, List.getElem_cons_succ, List.getElem_cons_zero, Act.put, List.setIfInBounds_toArray, List.set_cons_zero, List.set_cons_succ])
      refine wpAnyH_take (i := 7) (oi := _) (v := memV (some ⟨g2, 0, none⟩) zs.length cap2) rfl (by kernel_rfl) (by kernel_rfl) (by kernel_rfl) (fun _ _ _ h => HQ.out _ _ _ _ _ h) (Or.inl ⟨by rfl, ?_⟩) ⟨kM, kL⟩ ?_
      · intro w' hSw
        (try simp only [List.getElem_toArray, List.getElem_cons_succ, List.getElem_cons_zero])
        go_simp
      (try simp only [List.getElem_toArray, List.getElem_cons_succ, List.getElem_cons_zero, Act.put, List.setIfInBounds_toArray, List.set_cons_zero, List.set_cons_succ])
      refine wpAnyH_take (i := 8) (oi := _) (v := resV had gok) rfl (by kernel_rfl) (by kernel_rfl) (by kernel_rfl) (fun _ _ _ h => HQ.out _ _ _ _ _ h) (Or.inl ⟨by rfl, ?_⟩) ⟨kM, kL⟩ ?_
      · intro w' hSw
        (try simp only [List.getElem_toArray, List.getElem_cons_succ, List.getElem_cons_zero])
        go_simp
      (try simp only [List.getElem_toArray, List.getElem_cons_succ, List.getElem_cons_zero, Act.put, List.setIfInBounds_toArray, List.set_cons_zero, List.set_cons_succ])
      refine wpAnyH_take (i := 9) (oi := _) (v := .int .i64 0) rfl (by kernel_rfl) (by kernel_rfl) (by kernel_rfl) (fun _ _ _ h => HQ.out _ _ _ _ _ h) (Or.inl ⟨by rfl, ?_⟩) ⟨kM, kL⟩ ?_
      · intro w' hSw
        (try simp only [List.getElem_toArray, List.getElem_cons_succ, List.getElem_cons_zero])
        go_simp
      (try simp only [List.getElem_toArray, List.getElem_cons_succ, List.getElem_cons_zero, Act.put, List.setIfInBounds_toArray, List.set_cons_zero, List.set_cons_succ])
      have q1 := kN.cell 0
      have f1 := kN.free 0
      have l1 := kN.lt
      simp at q1
      refine wpAnyH_ready (rs := [12]) (by kernel_rfl) (by simp) ?_
      refine AllReadyH.cons (o := _) rfl (fun K hK => ?_) AllReadyH.nil
      (try simp only [List.getElem_toArray, List.getElem_cons_succ, List.getElem_cons_zero])
      go_simp
      clear q1 f1 l1
      have kN2 : Bk (wl34.setCell ⟨bM, 0, none⟩ (.slice (some ⟨g2, 0, none⟩) zs.length cap2)) bM 39 #[.slice (some ⟨g2, 0, none⟩) zs.length cap2] := kN.stored 0 _
      replace hown2 := hown2.far (p := ⟨bM, 0, none⟩) (own_ne hown2 kN (by decide)) (.slice (some ⟨g2, 0, none⟩) zs.length cap2)
      replace kM := kM.other (p := ⟨bM, 0, none⟩) (by dsimp only; omega) (.slice (some ⟨g2, 0, none⟩) zs.length cap2)
      replace kL := kL.other (p := ⟨bM, 0, none⟩) (by dsimp only; omega) (.slice (some ⟨g2, 0, none⟩) zs.length cap2)
      replace kR := kR.other (p := ⟨bM, 0, none⟩) (by dsimp only; omega) (.slice (some ⟨g2, 0, none⟩) zs.length cap2)
      replace hb := below_set hb (p := ⟨bM, 0, none⟩) (by dsimp only; omega) (.slice (some ⟨g2, 0, none⟩) zs.length cap2)
      refine hK.out _ _ ⟨kM, kL⟩ (fun hS' => ?_)
      clear hS' hK K
      (try simp only [List.getElem_toArray, List.getElem_cons_succ, List.getElem_cons_zero, Act.put, List.setIfInBounds_toArray, List.set_cons_zero, List.set_cons_succ])
      generalize wl34.setCell ⟨bM, 0, none⟩ (.slice (some ⟨g2, 0, none⟩) zs.length cap2) = ws1 at *
      have q1 := kR.cell 0
      have q2 := kR.cell 1
      have f1 := kR.free 0
      have f2 := kR.free 1
      have l1 := kR.lt
      simp at q1 q2
      refine wpAnyH_ready (rs := [13]) (by kernel_rfl) (by simp) ?_
      refine AllReadyH.cons (o := _) rfl (fun K hK => ?_) AllReadyH.nil
      (try simp only [List.getElem_toArray, List.getElem_cons_succ, List.getElem_cons_zero])
      go_simp
      clear q1 q2 f1 f2 l1
      replace hown2 := (hown2.far (p := ⟨bR, 0, none⟩) (own_ne hown2 kR (by decide)) (.int .i64 had)).far (p := ⟨bR, 1, none⟩) (own_ne hown2 kR (by decide)) (.bool gok)
      replace kN2 := (kN2.other (p := ⟨bR, 0, none⟩) (by dsimp only; omega) (.int .i64 had)).other (p := ⟨bR, 1, none⟩) (by dsimp only; omega) (.bool gok)
      replace kM := (kM.other (p := ⟨bR, 0, none⟩) (by dsimp only; omega) (.int .i64 had)).other (p := ⟨bR, 1, none⟩) (by dsimp only; omega) (.bool gok)
      replace kL := (kL.other (p := ⟨bR, 0, none⟩) (by dsimp only; omega) (.int .i64 had)).other (p := ⟨bR, 1, none⟩) (by dsimp only; omega) (.bool gok)
      replace hb := below_set (below_set hb (p := ⟨bR, 0, none⟩) (by dsimp only; omega) (.int .i64 had)) (p := ⟨bR, 1, none⟩) (by dsimp only; omega) (.bool gok)
      refine hK.out _ _ ⟨kM, kL⟩ (fun hS' => ?_)
      clear hS' hK K
      (try simp only [List.getElem_toArray, List.getElem_cons_succ, List.getElem_cons_zero, Act.put, List.setIfInBounds_toArray, List.set_cons_zero, List.set_cons_succ])
      refine wpAnyH_take (i := 14) (oi := _) (v := .int .i64 0) rfl (by kernel_rfl) (by kernel_rfl) (by kernel_rfl) (fun _ _ _ h => HQ.out _ _ _ _ _ h) (Or.inl ⟨by rfl, ?_⟩) ⟨kM, kL⟩ ?_
      · intro w' hSw
        (try simp only [List.getElem_toArray, List.getElem_cons_succ, List.getElem_cons_zero])
        go_simp
      (try simp only [List.getElem_toArray, List.getElem_cons_succ, List.getElem_cons_zero, Act.put, List.setIfInBounds_toArray, List.set_cons_zero, List.set_cons_succ])
      refine wpAnyH_done (by kernel_rfl) ?_ _
      exact HK.out _ _ _ _ _ _ _ _ _ _ _ _ bM g2 cap2 _ hb kN2 hown2
end Go.Proofs.Ytcjaomiihajjbaa
