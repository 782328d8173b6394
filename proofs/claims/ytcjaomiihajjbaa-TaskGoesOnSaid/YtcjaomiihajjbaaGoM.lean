/- TaskGoesOn's inner loop: a make that is alone. Printed by gomk_gen.py. -/
import Derived.Test.YtcjaomiihajjbaaGoS
import Derived.Test.YtcjaomiihajjbaaClaimL
import Derived.Test.YtcjaomiihajjbaaReg
namespace Go.Proofs.Ytcjaomiihajjbaa
open Go.RowKit
set_option linter.unusedVariables false
attribute [local go_sem ↓] Go.wp_at_zero Go.wp_at_succ

noncomputable def goMkC : Code := ((((Try.f5.body.map loopsOf).getD [])[1]?).getD .skip)
theorem res_rowM : ∃ i, RowT Try.prog 61 46 i (.agg #[.int .i64 0, .bool false]) 2 16 := RowT.of Try.underlying61 (by kernel_rfl) (by kernel_rfl) (by decide)
def MkRel (w : World) (b14 : Nat) (l : Ly) (m0 : List Int) (v10 v11 : Value) (wr : World) : Prop :=
  ∃ k : Nat, k ≤ 5 ∧ v11 = .int .i64 k ∧ Stp b14 w wr ∧ ∃ G cp g cap, v10 = .slice G k cp ∧ OwnRes wr 0 (.slice G k cp) (mkS l m0 k).2 ∧ Bk wr b14 39 #[.slice (some ⟨g, 0, none⟩) m0.length cap] ∧ OwnInts wr 0 (.slice (some ⟨g, 0, none⟩) m0.length cap) (mkS l m0 k).1
set_option maxRecDepth 1000000 in
set_option maxHeartbeats 16000000 in
theorem go_mk {K : Act → World → Prop} {Q : Exit → Act → World → Prop} (u0 u1 u2 u3 u4 u5 u6 u9 u12 u13 u14 u15 u16 u17 u18 u19 u20 u21 u22 u23 u24 u25 u26 u27 u28 u29 u30 u31 u32 u33 u34 u35 u36 u37 u38 u39 u40 u41 u42 u43 u44 u45 u46 u47 u48 u49 u50 u51 u52 u53 u54 u55 u56 u57 u58 u59 u60 u61 u62 u63 u64 u65 u66 u67 u68 u69 u70 u71 u72 u73 u74 u75 u76 u77 u78 u79 u80 u81 u82 u83 u84 u85 u86 u87 u88 u89 u90 u91 u92 u93 u94 u95 u96 u97 u98 u99 u100 u101 u102 u103 u104 u105 u106 u107 u108 u109 u110 u111 u112 u113 u114 u115 u116 u117 u118 u119 u120 u121 u122 u123 u124 u125 u126 u127 u128 u129 u130 u131 u132 u133 u134 u135 u136 u137 u138 u139 u140 u141 u142 u143 u144 u145 u146 u147 u148 u149 u150 u151 u152 u153 u154 u155 u156 u157 u158 u159 u160 u161 u162 u163 u164 u165 u166 u167 u168 u169 u170 u171 u172 u173 u174 u175 u176 u177 u178 u179 u180 u181 u182 u183 u184 u185 u186 u187 u188 u189 u190 u191 u192 u193 u194 u195 u196 u197 u198 u199 u200 u201 u202 u203 u204 u205 u206 u207 u208 u209 u210 u211 u212 u213 u214 u215 u216 u217 u218 u219 u220 u221 u222 u223 u224 u225 u226 u227 u228 u229 u230 u231 u232 u233 u234 u235 u236 u237 u238 u239 u240 u241 u242 u243 u244 u245 u246 u247 u248 u249 u250 u251 u252 u253 u254 u255 u256 u257 u258 u259 u260 u261 u262 u263 u264 u265 u266 u267 u268 u269 u270 u271 u272 u273 u274 u275 u276 u277 u278 u279 u280 u281 u282 u283 u284 u285 u286 u287 u288 u289 u290 u291 u292 u293 u294 u295 u296 u297 u298 u299 u300 u301 : Value) (w : World) (bL b14 : Nat) (l : Ly) (i : Nat) (m0 : List Int) (g0 cap0 : Nat)
    (hQ : ∀ c (a : Act) (dst : Tmp) v w, Q (.panic c) (a.put (some dst) v) w → Q (.panic c) a w)
    (hok : TkOk l) (hall : MkAll l i m0) (hm3 : m0.length ≤ 1000) (hne : bL ≠ b14) (kL : Bk w bL 34 (lyC l)) (kM : Bk w b14 39 #[.slice (some ⟨g0, 0, none⟩) m0.length cap0]) (hom : OwnInts w 0 (.slice (some ⟨g0, 0, none⟩) m0.length cap0) m0)
    (hK : ∀ (x4 x10 x11 x12 x13 x14 x15 x16 x17 x57 x58 x59 x60 x61 x62 x63 x64 x65 x66 x67 x68 x69 x70 x71 x72 x73 x74 x75 x76 x77 x78 x79 x80 x81 x82 x83 x84 x85 : Value) (wx : World) (g cap : Nat), Stp b14 w wx → Bk wx b14 39 #[.slice (some ⟨g, 0, none⟩) m0.length cap] → OwnInts wx 0 (.slice (some ⟨g, 0, none⟩) m0.length cap) (mkS l m0 5).1 → K ⟨#[u0, u1, u2, u3, x4, u5, u6, (ptr bL), (ptr b14), u9, x10, x11, x12, x13, x14, x15, x16, x17, u18, u19, u20, u21, u22, u23, u24, u25, u26, u27, u28, u29, u30, u31, u32, u33, u34, u35, u36, u37, u38, u39, u40, u41, u42, u43, u44, u45, u46, u47, u48, u49, u50, u51, u52, u53, u54, u55, u56, x57, x58, x59, x60, x61, x62, x63, x64, x65, x66, x67, x68, x69, x70, x71, x72, x73, x74, x75, x76, x77, x78, x79, x80, x81, x82, x83, x84, x85, u86, u87, u88, u89, u90, u91, u92, u93, u94, u95, u96, u97, u98, u99, u100, u101, u102, u103, u104, u105, u106, u107, u108, u109, u110, u111, u112, u113, u114, u115, u116, u117, u118, u119, u120, u121, u122, u123, u124, u125, u126, u127, u128, u129, u130, u131, u132, u133, u134, u135, u136, u137, u138, u139, u140, u141, u142, u143, u144, u145, u146, u147, u148, u149, u150, u151, u152, u153, u154, u155, u156, u157, u158, u159, u160, u161, u162, u163, u164, u165, u166, u167, u168, u169, u170, u171, u172, u173, u174, u175, u176, u177, u178, u179, u180, u181, u182, u183, u184, u185, u186, u187, u188, u189, u190, u191, u192, u193, u194, u195, u196, u197, u198, u199, u200, u201, u202, u203, u204, u205, u206, u207, u208, u209, u210, u211, u212, u213, u214, u215, u216, u217, u218, u219, u220, u221, u222, u223, u224, u225, u226, u227, u228, u229, u230, u231, u232, u233, u234, u235, u236, u237, u238, u239, u240, u241, u242, u243, u244, u245, u246, u247, u248, u249, u250, u251, u252, u253, u254, u255, u256, u257, u258, u259, u260, u261, u262, u263, u264, u265, u266, u267, u268, u269, u270, u271, u272, u273, u274, u275, u276, u277, u278, u279, u280, u281, u282, u283, u284, u285, u286, u287, u288, u289, u290, u291, u292, u293, u294, u295, u296, u297, u298, u299, u300, u301], []⟩ wx) :
    Code.wp Try.prog goMkC (Exit.inBlock 2 (Exit.then K Q)) ⟨#[u0, u1, u2, u3, u4, u5, u6, (ptr bL), (ptr b14), u9, (.slice none 0 0), (.int .i64 0), u12, u13, u14, u15, u16, u17, u18, u19, u20, u21, u22, u23, u24, u25, u26, u27, u28, u29, u30, u31, u32, u33, u34, u35, u36, u37, u38, u39, u40, u41, u42, u43, u44, u45, u46, u47, u48, u49, u50, u51, u52, u53, u54, u55, u56, u57, u58, u59, u60, u61, u62, u63, u64, u65, u66, u67, u68, u69, u70, u71, u72, u73, u74, u75, u76, u77, u78, u79, u80, u81, u82, u83, u84, u85, u86, u87, u88, u89, u90, u91, u92, u93, u94, u95, u96, u97, u98, u99, u100, u101, u102, u103, u104, u105, u106, u107, u108, u109, u110, u111, u112, u113, u114, u115, u116, u117, u118, u119, u120, u121, u122, u123, u124, u125, u126, u127, u128, u129, u130, u131, u132, u133, u134, u135, u136, u137, u138, u139, u140, u141, u142, u143, u144, u145, u146, u147, u148, u149, u150, u151, u152, u153, u154, u155, u156, u157, u158, u159, u160, u161, u162, u163, u164, u165, u166, u167, u168, u169, u170, u171, u172, u173, u174, u175, u176, u177, u178, u179, u180, u181, u182, u183, u184, u185, u186, u187, u188, u189, u190, u191, u192, u193, u194, u195, u196, u197, u198, u199, u200, u201, u202, u203, u204, u205, u206, u207, u208, u209, u210, u211, u212, u213, u214, u215, u216, u217, u218, u219, u220, u221, u222, u223, u224, u225, u226, u227, u228, u229, u230, u231, u232, u233, u234, u235, u236, u237, u238, u239, u240, u241, u242, u243, u244, u245, u246, u247, u248, u249, u250, u251, u252, u253, u254, u255, u256, u257, u258, u259, u260, u261, u262, u263, u264, u265, u266, u267, u268, u269, u270, u271, u272, u273, u274, u275, u276, u277, u278, u279, u280, u281, u282, u283, u284, u285, u286, u287, u288, u289, u290, u291, u292, u293, u294, u295, u296, u297, u298, u299, u300, u301], []⟩ w := by
  dsimp only at hK ⊢
  have HK := Lib.hid hK
  have HQ := Lib.hid hQ
  have HOK := Lib.hid hok
  have HALL := Lib.hid hall
  have HR0 : Hid (MkRel w b14 l m0 (.slice none 0 0) (.int .i64 0) w) := Lib.hid ⟨0, by omega, rfl, Stp.refl _ _, none, 0, g0, cap0, rfl, World.ownsRow_nil _ _ _ _, kM, hom⟩
  clear hK hQ hok hall kM hom
  conv => arg 2; whnf
  go_loopw [10, 11] (fun v10 v11 wr => MkRel w b14 l m0 v10 v11 wr) (fun _ v11 _ => 6 - (intOf v11).toNat)
  case atStart => exact HR0.out
  case round =>
    clear HR0
    obtain ⟨k, hk, rfl, hst, G, cp, g, cap, rfl, hres, kM, hom⟩ := hrel
    have i0 : (k : Int) < 6 := by omega
    replace kL := hst.keep kL hne
    obtain ⟨f1, f2, f3, f4⟩ := HALL.out.fits k hk
    obtain ⟨log, hlog⟩ : ∃ x, (mkS l m0 k).2 = x := ⟨_, rfl⟩
    obtain ⟨mm, hmm⟩ : ∃ x, (mkS l m0 k).1 = x := ⟨_, rfl⟩
    rw [hlog] at hres f2 f4
    rw [hmm] at hom f1 f3
    have HLOG := Lib.hid (And.intro hlog hmm)
    have HF := Lib.hid (And.intro f1 (And.intro f3 f4))
    clear hlog hmm f1 f3 f4
    obtain rfl : k = log.length := f2.symm
    clear f2
    have HOM := Lib.hid hom
    clear hom
    go_upto_region 14 with fail
    go_wp2_with (refine wpList_load_row rfl 34 (.tmp 7) rfl bL rfl 34 (lyC l) (0, 0) _ kL Try.underlying34 rfl (by kernel_rfl) ?_)
    have hsl : SlRes wr wr.heap.size G log := slRes_of_own (base := 0) (cap := cp) hres
    have hlr : ∀ x ∈ log, -9223372036854775808 ≤ x.1 ∧ x.1 ≤ 9223372036854775807 := HF.out.2.2
    have HRES := Lib.hid hres
    clear hres
    (with_reducible refine (next_any l 0 (⟨11, 0, 1, 0⟩ : Opr) G cp log _ HOK.out.fit (by dsimp only; omega) hsl (by omega) hlr).mono ?_)
    clear hsl hlr
    intro e w9 hpost
    replace hpost := ansPost_of hpost
    obtain ⟨ans, hans⟩ : ∃ a', nextA l (⟨11, 0, 1, 0⟩ : Opr) log = a' := ⟨_, rfl⟩
    rw [hans] at hpost
    have HANS := Lib.hid hans
    clear hans
    cases ans with
    | out val is err point =>
      obtain ⟨rfl, hb⟩ := hpost
      have hk5 : log.length = 5 := by
        by_cases h5 : log.length < 5
        · obtain ⟨k', c, o', v, e1, _⟩ := HALL.out.asks log.length h5
          rw [HLOG.out.1] at e1
          rw [show mkOp = (⟨11, 0, 1, 0⟩ : Opr) from rfl, HANS.out] at e1
          cases e1
        · omega
      have hst2 := hst.trans (Stp.of_below b14 hb)
      have kM2 := kM.keep hb
      have hom2 := own_keepb HOM.out hb
      have h5 := HLOG.out.2
      rw [hk5] at h5
      rw [← h5] at hom2
      have HF2 := Lib.hid (And.intro hst2 (And.intro kM2 hom2))
      have zM := kM2.lt
      clear hst2 kM2 hom2 h5 hb kL hst
      go_upto_region 15 with fail
      have hf2 : Stp b14 w ((w9.alloc (.cells accZ 44)).alloc (.cells (outC val is err point) 50)) := (HF2.out.1.alloc _).alloc _
      have hf3 := (HF2.out.2.1.alloc (.cells accZ 44)).alloc (.cells (outC val is err point) 50)
      have hf4 := (HF2.out.2.2.alloc (.cells accZ 44)).alloc (.cells (outC val is err point) 50)
      have HF3 := Lib.hid (And.intro hf2 (And.intro hf3 hf4))
      clear hf2 hf3 hf4 HF2
      generalize (w9.alloc (.cells accZ 44)).alloc (.cells (outC val is err point) 50) = w10 at *
      go_wp2_with fail
      exact HK.out _ _ _ _ _ _ _ _ _ _ _ _ _ _ _ _ _ _ _ _ _ _ _ _ _ _ _ _ _ _ _ _ _ _ _ _ _ _ w10 g cap HF3.out.1 HF3.out.2.1 HF3.out.2.2
    | ask kk cc oo vv =>
      obtain ⟨rfl, hb⟩ := hpost
      have hk5 : log.length < 5 := by
        by_cases h5 : log.length < 5
        · exact h5
        · have h5' : log.length = 5 := by omega
          obtain ⟨a1, a2, a3, a4, e1⟩ := HALL.out.outs
          have h6 := HLOG.out.1
          rw [h5'] at h6
          rw [h6, show mkOp = (⟨11, 0, 1, 0⟩ : Opr) from rfl, HANS.out] at e1
          cases e1
      have he : (⟨kk, cc, oo, vv⟩ : Acc).err mm.length = 0 := by
        obtain ⟨k', c, o', v, e1, e2⟩ := HALL.out.asks log.length hk5
        rw [HLOG.out.1, show mkOp = (⟨11, 0, 1, 0⟩ : Opr) from rfl, HANS.out] at e1
        injection e1 with e1 e3 e4 e5
        subst e1 e3 e4 e5
        rw [HLOG.out.2] at e2
        exact e2
      have hnext : mkS l m0 (log.length + 1) = ((⟨kk, cc, oo, vv⟩ : Acc).make mm, log ++ [((⟨kk, cc, oo, vv⟩ : Acc).had mm, (⟨kk, cc, oo, vv⟩ : Acc).ok ((⟨kk, cc, oo, vv⟩ : Acc).had mm))]) := by
        rw [mkS_ask (k' := kk) (c := cc) (o := oo) (v := vv) (by rw [HLOG.out.1]; exact HANS.out), HLOG.out.1, HLOG.out.2]
      have HHE := Lib.hid (And.intro he hnext)
      replace kM := kM.keep hb
      replace kL := kL.keep hb
      have hom := own_keepb HOM.out hb
      have hres := own_keepb HRES.out hb
      replace hst := hst.trans (Stp.of_below b14 hb)
      clear he hnext hb HOM HRES kL
      have hml : mm.length = m0.length := HF.out.1
      have HML := Lib.hid hml
      clear hml
      go_upto_region 16 with fail
      have kA := (Bk.made w9 44 (accC kk cc oo vv)).alloc (.cells outZ 50)
      replace kM := (kM.alloc (.cells (accC kk cc oo vv) 44)).alloc (.cells outZ 50)
      replace hom := (hom.alloc (.cells (accC kk cc oo vv) 44)).alloc (.cells outZ 50)
      replace hres := (World.ownsRow.alloc hres (.cells (accC kk cc oo vv) 44)).alloc (.cells outZ 50)
      replace hst := (hst.alloc (.cells (accC kk cc oo vv) 44)).alloc (.cells outZ 50)
      generalize (w9.alloc (.cells (accC kk cc oo vv) 44)).alloc (.cells outZ 50) = w10 at *
      generalize w9.heap.size = bA at *
      have v0 := kA.cell 0
      have v1 := kA.cell 1
      have v2 := kA.cell 2
      have v3 := kA.cell 3
      have q5 := kM.cell 0
      simp at v0 v1 v2 v3 q5
      have HRES := Lib.hid (And.intro hres hom)
      clear hres hom
      go_wp2_with fail
      clear v0 v1 v2 v3 q5
      have hom := HRES.out.2
      have hsl := own_sl hom HML.out
      rw [← HML.out] at hsl ⊢
      (with_reducible refine (do_ok (some ⟨g, 0, none⟩) cap mm ⟨kk, cc, oo, vv⟩ _ hsl (by rw [HML.out]; omega) HHE.out.1).mono ?_)
      rintro e w11 ⟨g2, cap2, rfl, hown2, hb⟩
      rw [HML.out] at hown2 ⊢
      have hres := own_keepb HRES.out.1 hb
      replace kM := kM.keep hb
      replace hst := hst.trans (Stp.of_below b14 hb)
      replace hown2 : OwnInts w11 0 (.slice (some ⟨g2, 0, none⟩) m0.length cap2) ((⟨kk, cc, oo, vv⟩ : Acc).make mm) := own_lower hown2 (Nat.zero_le _)
      have hnx := HHE.out.2
      clear hb hsl hom HRES HHE kA
      generalize (⟨kk, cc, oo, vv⟩ : Acc).make mm = m' at *
      generalize (⟨kk, cc, oo, vv⟩ : Acc).had mm = had at *
      generalize (⟨kk, cc, oo, vv⟩ : Acc).ok had = gok at *
      have HNX := Lib.hid hnx
      have HR1 := Lib.hid hres
      have HO2 := Lib.hid hown2
      clear hnx hres hown2
      go_upto_region 19 with fail
      have kN := (Bk.made w11 39 #[.slice (some ⟨g2, 0, none⟩) m0.length cap2]).alloc (.cells #[.int .i64 had, .bool gok] 46)
      have kR := Bk.new (w11.alloc (.cells #[.slice (some ⟨g2, 0, none⟩) m0.length cap2] 39)) (g := w11.heap.size + 1) (by simp) 46 #[.int .i64 had, .bool gok]
      have zM := kM.lt
      replace kM := (kM.alloc (.cells #[.slice (some ⟨g2, 0, none⟩) m0.length cap2] 39)).alloc (.cells #[.int .i64 had, .bool gok] 46)
      replace hst := (hst.alloc (.cells #[.slice (some ⟨g2, 0, none⟩) m0.length cap2] 39)).alloc (.cells #[.int .i64 had, .bool gok] 46)
      have hown2 := (HO2.out.alloc (.cells #[.slice (some ⟨g2, 0, none⟩) m0.length cap2] 39)).alloc (.cells #[.int .i64 had, .bool gok] 46)
      have hres := (World.ownsRow.alloc HR1.out (.cells #[.slice (some ⟨g2, 0, none⟩) m0.length cap2] 39)).alloc (.cells #[.int .i64 had, .bool gok] 46)
      clear HO2 HR1
      generalize (w11.alloc (.cells #[.slice (some ⟨g2, 0, none⟩) m0.length cap2] 39)).alloc (.cells #[.int .i64 had, .bool gok] 46) = w12 at *
      generalize w11.heap.size = bN at *
      have q5 := kM.cell 0
      have f5 := kM.free 0
      have l5 := kM.lt
      have v0 := kN.cell 0
      simp at q5 v0
      have HX := Lib.hid (And.intro hres hown2)
      clear hres hown2
      go_upto_region 20 with fail
      clear q5 f5 l5 v0 kN
      have hres := own_keptT HX.out.1 (keptT_set kM 0 (.slice (some ⟨g2, 0, none⟩) m0.length cap2)) (by decide)
      have hown2 := HX.out.2.far (p := ⟨b14, 0, none⟩) (own_ne HX.out.2 kM (by decide)) (.slice (some ⟨g2, 0, none⟩) m0.length cap2)
      replace hst := hst.trans (Stp.set w12 b14 0 (.slice (some ⟨g2, 0, none⟩) m0.length cap2))
      replace kR := kR.other (p := ⟨b14, 0, none⟩) (by dsimp only; omega) (.slice (some ⟨g2, 0, none⟩) m0.length cap2)
      replace kM : Bk (w12.setCell ⟨b14, 0, none⟩ (.slice (some ⟨g2, 0, none⟩) m0.length cap2)) b14 39 #[.slice (some ⟨g2, 0, none⟩) m0.length cap2] := kM.stored 0 (.slice (some ⟨g2, 0, none⟩) m0.length cap2)
      clear HX
      generalize w12.setCell ⟨b14, 0, none⟩ (.slice (some ⟨g2, 0, none⟩) m0.length cap2) = w13 at *
      refine wp_region_E (S := fun w' => Below w13.drew.heap.size w13.drew w') (E := fun _ => false) (by kernel_rfl) ?_
      replace hst := hst.trans (Stp.of_below b14 (below_drew (Below.refl w13.heap.size w13)))
      replace kR := kR.drew
      replace kM := kM.drew
      replace hres : OwnRes w13.drew 0 (.slice G log.length cp) log := hres
      replace hown2 : OwnInts w13.drew 0 (.slice (some ⟨g2, 0, none⟩) m0.length cap2) m' := hown2
      generalize w13.drew = w14 at *
      obtain ⟨ri, hri⟩ := res_rowM
      refine wpAnyE_take (i := 1) (oi := _) (v := .slice G log.length cp) rfl (by kernel_rfl) (by kernel_rfl) (by kernel_rfl) (by kernel_rfl) (fun _ _ _ h => HQ.out _ _ _ _ _ h) (Or.inl ⟨by rfl, ?_⟩) (Below.refl _ _) ?_
      · intro w' hSw
        (try simp only [List.getElem_toArray, List.getElem_cons_succ, List.getElem_cons_zero])
        go_simp
      (try simp only [List.getElem_toArray, List.getElem_cons_succ, List.getElem_cons_zero, Act.put, List.setIfInBounds_toArray, List.set_cons_zero, List.set_cons_succ])
      refine wpAnyE_take (i := 3) (oi := _) (v := .agg #[.int .i64 had, .bool gok]) rfl (by kernel_rfl) (by kernel_rfl) (by kernel_rfl) (by kernel_rfl) (fun _ _ _ h => HQ.out _ _ _ _ _ h) (Or.inl ⟨by rfl, ?_⟩) (Below.refl _ _) ?_
      · intro w' hSw
        have s1 := (kR.keep hSw).cell 0
        have s2 := (kR.keep hSw).cell 1
        (try simp at s1 s2)
        (try simp only [List.getElem_toArray, List.getElem_cons_succ, List.getElem_cons_zero])
        go_simp
      (try simp only [List.getElem_toArray, List.getElem_cons_succ, List.getElem_cons_zero, Act.put, List.setIfInBounds_toArray, List.set_cons_zero, List.set_cons_succ])
      refine wpAnyE_app2 hri 0 2 4 5 80 82 84 85 (.tmp 81) (.tmp 83) rfl rfl rfl rfl ⟨rfl, rfl, rfl⟩ ⟨rfl, rfl, rfl⟩ ⟨rfl, rfl, rfl⟩ ⟨rfl, rfl, rfl⟩ (by kernel_rfl) (by kernel_rfl) (by kernel_rfl) (by kernel_rfl) (by kernel_rfl) (by kernel_rfl) (by simp) ⟨of_decide_eq_true (by kernel_rfl), of_decide_eq_true (by kernel_rfl), of_decide_eq_true (by kernel_rfl)⟩ w14.heap.size (Nat.le_refl _) (Below.refl _ _) (fun w1 w2 h12 h1 => h1.trans h12) G log.length cp (resCells log) rfl (Src.own hres (Nat.le_refl _)) (resCells_one log) (.agg #[.int .i64 had, .bool gok]) #[.int .i64 had, .bool gok] rfl (fun w => by kernel_rfl) rfl (by simp [Value.oneCell']) (by omega) (by omega) ?_
      intro vA vB vC vD w15 hown hb15 hS15
      (try simp only [Act.put, List.setIfInBounds_toArray, List.set_cons_zero, List.set_cons_succ])
      obtain ⟨GD, cD, rfl⟩ := own_slice hown
      refine wpAnyE_one (i := 6) (o := _) (by kernel_rfl) rfl (fun K hK => ?_)
      (try simp only [List.getElem_toArray, List.getElem_cons_succ, List.getElem_cons_zero])
      go_simp
      refine hK.out _ _ (fun _ => hS15) ?_
      clear hK K
      (try simp only [List.getElem_toArray, List.getElem_cons_succ, List.getElem_cons_zero, Act.put, List.setIfInBounds_toArray, List.set_cons_zero, List.set_cons_succ])
      refine wpAnyE_done (by kernel_rfl) ?_ _
      have hr1 : MkRel w b14 l m0 (.slice GD (log.length + 1) cD) (.int .i64 ((log.length + 1 : Nat) : Int)) w15 := by
        refine ⟨log.length + 1, by omega, rfl, hst.trans (Stp.of_below b14 hb15), GD, cD, g2, cap2, rfl, ?_, kM.keep hb15, ?_⟩
        · rw [HNX.out]
          exact logOwn hown
        · rw [HNX.out]
          exact own_keepb hown2 hb15
      have HR1 := Lib.hid hr1
      clear hr1 hown hb15 hS15 hst kM kR hres hown2
      go_wp2_with fail
      exact ⟨HR1.out, by simp [intOf]; omega⟩
end Go.Proofs.Ytcjaomiihajjbaa
