/- The play's loop of TaskGoesOn. Printed by goloop_gen.py. -/
import Derived.Test.YtcjaomiihajjbaaGoS
import Derived.Test.YtcjaomiihajjbaaNums
import Derived.Test.YtcjaomiihajjbaaClaimL
import Derived.Test.YtcjaomiihajjbaaReg
namespace Go.Proofs.Ytcjaomiihajjbaa
open Go.RowKit
set_option linter.unusedVariables false
attribute [local go_sem ↓] Go.wp_at_zero Go.wp_at_succ

/-- The play with its wants: a row of three rows of operations. -/
structure WAt (w : World) (b8 gW : Nat) (T : Option Addr) (m d : Nat) (want : List (List Opr)) : Prop where
  kP : Bk w b8 27 (playC 7 (some ⟨gW, 0, none⟩) 3 3 T m d)
  kW : ∃ rows, Bk w gW 28 rows ∧ rows.size = 3 ∧ ∀ (j : Nat) (ops : List Opr), want[j]? = some ops → ∃ G cap, rows[j]? = some (.slice G ops.length cap) ∧ w.ownsRow 0 30 4 (.slice G ops.length cap) ops.length (opCells ops)
structure GRep (w : World) (b8 gW bL b14 gs : Nat) (T : Option Addr) (m d : Nat) (want : List (List Opr)) (l : Ly) (s : PSt) : Prop where
  wa : WAt w b8 gW T m d want
  kL : Bk w bL 34 (lyC l)
  mem : ∃ g cap, Bk w b14 39 #[.slice (some ⟨g, 0, none⟩) s.m.length cap] ∧ OwnInts w 0 (.slice (some ⟨g, 0, none⟩) s.m.length cap) s.m
  seats : ∃ cs, SeatsAt w gs s.seats cs
section
variable {w w' : World} {b8 gW bL b14 gs : Nat} {T : Option Addr} {m d : Nat} {want : List (List Opr)} {l : Ly} {s : PSt}
theorem WAt.keep (h : WAt w b8 gW T m d want) (hb : Below w.heap.size w w') : WAt w' b8 gW T m d want := by
  obtain ⟨rows, k, hs, ha⟩ := h.kW
  refine ⟨h.kP.keep hb, rows, k.keep hb, hs, fun j ops hj => ?_⟩
  obtain ⟨G, cap, h1, h2⟩ := ha j ops hj
  exact ⟨G, cap, h1, own_keepb h2 hb⟩
theorem WAt.keptT {t0 : TypeId} (h : WAt w b8 gW T m d want) (hk : KeptT t0 w w') (n1 : 27 ≠ t0) (n2 : 28 ≠ t0) (n3 : 30 ≠ t0) : WAt w' b8 gW T m d want := by
  obtain ⟨rows, k, hs, ha⟩ := h.kW
  refine ⟨h.kP.keptT hk n1, rows, k.keptT hk n2, hs, fun j ops hj => ?_⟩
  obtain ⟨G, cap, h1, h2⟩ := ha j ops hj
  exact ⟨G, cap, h1, own_keptT h2 hk n3⟩
theorem WAt.at_ (h : WAt w b8 gW T m d want) {j : Nat} {ops : List Opr} (hj : want[j]? = some ops) : ∃ G cap, w.cell? ⟨gW, j, none⟩ = some (.slice G ops.length cap) ∧ w.ownsRow 0 30 4 (.slice G ops.length cap) ops.length (opCells ops) := by
  obtain ⟨rows, k, hs, ha⟩ := h.kW
  obtain ⟨G, cap, h1, h2⟩ := ha j ops hj
  exact ⟨G, cap, (k.cell j).trans h1, h2⟩
theorem WAt.set {who : Nat} {ops : List Opr} {G : Option Addr} {cap : Nat} (h : WAt w b8 gW T m d want) (hl : want.length = 3) (hw : who < 3) (ho : w.ownsRow 0 30 4 (.slice G ops.length cap) ops.length (opCells ops)) :
    WAt (w.setCell ⟨gW, who, none⟩ (.slice G ops.length cap)) b8 gW T m d (want.set who ops) := by
  obtain ⟨rows, k, hs, ha⟩ := h.kW
  have hk := keptT_set k who (.slice G ops.length cap)
  refine ⟨h.kP.keptT hk (by decide), _, k.stored who (.slice G ops.length cap), by simp [hs], fun j ops' hj => ?_⟩
  by_cases e : j = who
  · subst e
    rw [List.getElem?_set_self (by omega)] at hj
    injection hj with hj
    subst hj
    exact ⟨G, cap, Array.getElem?_setIfInBounds_self_of_lt (by omega), own_keptT ho hk (by decide)⟩
  · rw [List.getElem?_set_ne (fun e' => e e'.symm)] at hj
    obtain ⟨G', cap', h1, h2⟩ := ha j ops' hj
    exact ⟨G', cap', by rw [Array.getElem?_setIfInBounds_ne (fun e' => e e'.symm)]; exact h1, own_keptT h2 hk (by decide)⟩
theorem GRep.keep (h : GRep w b8 gW bL b14 gs T m d want l s) (hb : Below w.heap.size w w') : GRep w' b8 gW bL b14 gs T m d want l s := by
  obtain ⟨g, cap, h1, h2⟩ := h.mem
  obtain ⟨cs, h4⟩ := h.seats
  exact ⟨h.wa.keep hb, h.kL.keep hb, ⟨g, cap, h1.keep hb, own_keepb h2 hb⟩, ⟨cs, h4.keep hb⟩⟩
theorem GRep.outs {out : List StepM} (h : GRep w b8 gW bL b14 gs T m d want l s) : GRep w b8 gW bL b14 gs T m d want l ⟨s.m, s.seats, out⟩ := ⟨h.wa, h.kL, h.mem, h.seats⟩
theorem GRep.seat {G : Option Addr} {cap who a : Nat} {log : List (Int × Bool)} {out : List StepM} (h : GRep w b8 gW bL b14 gs T m d want l s) (hw : who < s.seats.length) (ho : OwnRes w 0 (.slice G log.length cap) log) :
    GRep ((w.setCell ⟨gs, who * 2, none⟩ (.int .i64 (a : Nat))).setCell ⟨gs, who * 2 + 1, none⟩ (.slice G log.length cap)) b8 gW bL b14 gs T m d want l ⟨s.m, s.seats.set who (a, log), out⟩ := by
  obtain ⟨g, cp, h1, h2⟩ := h.mem
  obtain ⟨cs, h4⟩ := h.seats
  have hk : KeptT 63 w ((w.setCell ⟨gs, who * 2, none⟩ (.int .i64 (a : Nat))).setCell ⟨gs, who * 2 + 1, none⟩ (.slice G log.length cap)) := (keptT_set h4.row _ _).trans (keptT_set (h4.row.stored _ _) _ _)
  exact ⟨h.wa.keptT hk (by decide) (by decide) (by decide), h.kL.keptT hk (by decide), ⟨g, cp, h1.keptT hk (by decide), own_keptT h2 hk (by decide)⟩, ⟨_, h4.set hw ho⟩⟩
theorem GRep.memory {g cap n : Nat} {m' : List Int} (h : GRep w b8 gW bL b14 gs T m d want l s) (st : Stp b14 w w') (hn : m'.length = n) (k5 : Bk w' b14 39 #[.slice (some ⟨g, 0, none⟩) n cap]) (ho : OwnInts w' 0 (.slice (some ⟨g, 0, none⟩) n cap) m') : GRep w' b8 gW bL b14 gs T m d want l ⟨m', s.seats, s.out⟩ := by
  subst hn
  obtain ⟨_, _, h1, _⟩ := h.mem
  obtain ⟨cs, h4⟩ := h.seats
  have hk := keptT_stp h1 st
  exact ⟨h.wa.keptT hk (by decide) (by decide) (by decide), h.kL.keptT hk (by decide), ⟨g, cap, k5, ho⟩, ⟨cs, h4.keptT hk (by decide) (by decide)⟩⟩
theorem GRep.aside {bX : Nat} {c : Array Value} (h : GRep w b8 gW bL b14 gs T m d want l s) (kX : Bk w bX 63 c) (st : Stp bX w w') (hne : gs ≠ bX) : GRep w' b8 gW bL b14 gs T m d want l s := by
  obtain ⟨g, cp, h1, h2⟩ := h.mem
  obtain ⟨cs, h4⟩ := h.seats
  have hk := keptT_stp kX st
  refine ⟨h.wa.keptT hk (by decide) (by decide) (by decide), h.kL.keptT hk (by decide), ⟨g, cp, h1.keptT hk (by decide), own_keptT h2 hk (by decide)⟩, ⟨cs, st.keep h4.row hne, h4.size, fun k x hx => ?_⟩⟩
  obtain ⟨G, cap, e1, e2, e3⟩ := h4.at_ k x hx
  exact ⟨G, cap, e1, e2, own_keptT e3 hk (by decide)⟩
end
def GRel (w0 : World) (b8 gW bL b14 gs : Nat) (T : Option Addr) (m d : Nat) (l : Ly) (want : List (List Opr)) (ws : List Nat) (s0 : PSt) (v20 v21 v22 v23 : Value) (wr : World) : Prop :=
  ∃ (k : Nat) (s : PSt), k ≤ ws.length ∧ v20 = .int .i64 ((nGo s.out : Nat) : Int) ∧ v21 = .int .i64 ((lastQ l s.out : Nat) : Int) ∧ v22 = .int .i64 ((nAdd l s.out : Nat) : Int) ∧ v23 = .int .i64 k ∧ Below w0.heap.size w0 wr ∧ runP l want s0 (ws.take k) = (s, false) ∧ GRep wr b8 gW bL b14 gs T m d want l s
noncomputable def goLoopC : Code := ((((Try.f5.body.map loopsOf).getD [])[2]?).getD .skip)
theorem res_rowT : ∃ i, RowT Try.prog 61 46 i (.agg #[.int .i64 0, .bool false]) 2 16 := RowT.of Try.underlying61 (by kernel_rfl) (by kernel_rfl) (by decide)
theorem gok_want {n : Nat} {want : List (List Opr)} (hw : GOk n want) (hn : n ≤ 100) : WantOk want := fun ops ho op hop => by
  rcases hw ops ho op hop with rfl | ⟨a, rfl, a1, a2⟩
  · exact ⟨⟨by simp [syOp], by simp [syOp]⟩, ⟨by simp [syOp], by simp [syOp]⟩⟩
  · exact ⟨⟨by simp only [enOp]; omega, by simp only [enOp]; omega⟩, ⟨by simp only [enOp]; omega, by simp only [enOp]; omega⟩⟩
theorem lastQ_le {l : Ly} {out : List StepM} (h : ∀ st ∈ out, st.who < 3 ∧ st.at_ ≤ 400) : lastQ l out ≤ 500 := by
  have key : ∀ (out : List StepM) (z : Nat), z ≤ 500 → (∀ st ∈ out, st.who < 3 ∧ st.at_ ≤ 400) → out.foldl (fun z st => if addQ l st then 10 * st.who + st.at_ + 1 else z) z ≤ 500 := by
    intro out
    induction out with
    | nil => intro z hz _; exact hz
    | cons a out ih =>
      intro z hz h
      refine ih _ ?_ (fun st hst => h st (by simp [hst]))
      have := h a (by simp)
      dsimp only
      split <;> omega
  exact key out 0 (by omega) h
set_option maxRecDepth 1000000 in
set_option maxHeartbeats 16000000 in
theorem go_loop_any {K : Act → World → Prop} {Q : Exit → Act → World → Prop} (u0 u2 u3 u4 u5 u9 u10 u11 u12 u13 u14 u15 u16 u17 u18 u24 u25 u26 u27 u28 u29 u30 u31 u32 u33 u34 u35 u36 u37 u38 u39 u40 u41 u42 u43 u44 u45 u46 u47 u48 u49 u50 u51 u52 u53 u54 u55 u56 u57 u58 u59 u60 u61 u62 u63 u64 u65 u66 u67 u68 u69 u70 u71 u72 u73 u74 u75 u76 u77 u78 u79 u80 u81 u82 u83 u84 u85 u86 u87 u88 u89 u90 u91 u92 u93 u94 u95 u96 u97 u98 u99 u100 u101 u102 u103 u104 u105 u106 u107 u108 u109 u110 u111 u112 u113 u114 u115 u116 u117 u118 u119 u120 u121 u122 u123 u124 u125 u126 u127 u128 u129 u130 u131 u132 u133 u134 u135 u136 u137 u138 u139 u140 u141 u142 u143 u144 u145 u146 u147 u148 u149 u150 u151 u152 u153 u154 u155 u156 u157 u158 u159 u160 u161 u162 u163 u164 u165 u166 u167 u168 u169 u170 u171 u172 u173 u174 u175 u176 u177 u178 u179 u180 u181 u182 u183 u184 u185 u186 u187 u188 u189 u190 u191 u192 u193 u194 u195 u196 u197 u198 u199 u200 u201 u202 u203 u204 u205 u206 u207 u208 u209 u210 u211 u212 u213 u214 u215 u216 u217 u218 u219 u220 u221 u222 u223 u224 u225 u226 u227 u228 u229 u230 u231 u232 u233 u234 u235 u236 u237 u238 u239 u240 u241 u242 u243 u244 u245 u246 u247 u248 u249 u250 u251 u252 u253 u254 u255 u256 u257 u258 u259 u260 u261 u262 u263 u264 u265 u266 u267 u268 u269 u270 u271 u272 u273 u274 u275 u276 u277 u278 u279 u280 u281 u282 u283 u284 u285 u286 u287 u288 u289 u290 u291 u292 u293 u294 u295 u296 u297 u298 u299 u300 u301 : Value) (w0 w : World) (T : Option Addr) (m d : Nat) (b8 gW bL b14 gs : Nat) (l : Ly) (n N : Nat) (want : List (List Opr)) (turns : List Nat) (s0 : PSt)
    (hQ : ∀ c (a : Act) (dst : Tmp) v w, Q (.panic c) (a.put (some dst) v) w → Q (.panic c) a w)
    (hb : Below w0.heap.size w0 w) (hm : turns.length = m) (hm2 : m ≤ 200) (hn : want.length = 3) (hT : SlU8 w0 w0.heap.size T turns) (hok : TkOk l) (hnum : w0.heap.size ≤ b8 ∧ w0.heap.size ≤ bL ∧ w0.heap.size ≤ b14 ∧ w0.heap.size ≤ gs)
    (hnt : 1 + (n : Int) ≤ l.c.tasks) (hn5 : n ≤ 5) (hw : GOk n want) (hN : lens3 want = N) (hN2 : N ≤ 1000) (hgi : GInv l n N want s0) (hsl : lastQ l s0.out = 0 ∧ nGo s0.out = 0 ∧ nAdd l s0.out = 0 ∧ s0.out = []) (hs0 : PInv 3 s0.m.length 0 s0) (hm3 : s0.m.length ≤ 1000) (hrep0 : GRep w b8 gW bL b14 gs T m d want l s0)
    (hK : ∀ (x4 x23 x24 x25 x26 x27 x28 x29 x30 x31 x32 x123 x124 x125 x126 x127 x128 x129 x130 x131 x132 x133 x134 x135 x136 x137 x138 x139 x140 x141 x142 x143 x144 x145 x146 x147 x148 x149 x150 x151 x152 x153 x154 x155 x156 x157 x158 x159 x160 x161 x162 x163 x164 x165 x166 x167 x168 x169 x170 x171 x172 x173 x174 x175 x176 x177 x178 x179 x180 x181 x182 x183 x184 x185 x186 x187 x188 x189 x190 x191 x192 x193 x194 x195 x196 x197 x198 x199 x200 x201 x202 x203 x204 x205 x206 x207 x208 x209 x210 x211 x212 x213 x214 x215 x216 x217 x218 x219 x220 x221 x222 x223 x224 x225 x226 x227 x228 x229 x230 x231 x232 x233 x234 x235 x236 x237 x238 x239 x240 x241 x242 x243 x244 x245 x246 x247 x248 x249 x250 x251 x252 x253 x254 x255 x256 x257 x258 x21 : Value) (wx : World), Below w0.heap.size w0 wx → GRep wx b8 gW bL b14 gs T m d want l (runP l want s0 (whosP 3 turns)).1 → K ⟨#[u0, (.slice T m d), u2, u3, x4, u5, (ptr b8), (ptr bL), (ptr b14), u9, u10, u11, u12, u13, u14, u15, u16, u17, u18, (.slice (some ⟨gs, 0, none⟩) 3 3), (.int .i64 ((nGo (runP l want s0 (whosP 3 turns)).1.out : Nat) : Int)), x21, (.int .i64 ((nAdd l (runP l want s0 (whosP 3 turns)).1.out : Nat) : Int)), x23, x24, x25, x26, x27, x28, x29, x30, x31, x32, u33, u34, u35, u36, u37, u38, u39, u40, u41, u42, u43, u44, u45, u46, u47, u48, u49, u50, u51, u52, u53, u54, u55, u56, u57, u58, u59, u60, u61, u62, u63, u64, u65, u66, u67, u68, u69, u70, u71, u72, u73, u74, u75, u76, u77, u78, u79, u80, u81, u82, u83, u84, u85, u86, u87, u88, u89, u90, u91, u92, u93, u94, u95, u96, u97, u98, u99, u100, u101, u102, u103, u104, u105, u106, u107, u108, u109, u110, u111, u112, u113, u114, u115, u116, u117, u118, u119, u120, u121, u122, x123, x124, x125, x126, x127, x128, x129, x130, x131, x132, x133, x134, x135, x136, x137, x138, x139, x140, x141, x142, x143, x144, x145, x146, x147, x148, x149, x150, x151, x152, x153, x154, x155, x156, x157, x158, x159, x160, x161, x162, x163, x164, x165, x166, x167, x168, x169, x170, x171, x172, x173, x174, x175, x176, x177, x178, x179, x180, x181, x182, x183, x184, x185, x186, x187, x188, x189, x190, x191, x192, x193, x194, x195, x196, x197, x198, x199, x200, x201, x202, x203, x204, x205, x206, x207, x208, x209, x210, x211, x212, x213, x214, x215, x216, x217, x218, x219, x220, x221, x222, x223, x224, x225, x226, x227, x228, x229, x230, x231, x232, x233, x234, x235, x236, x237, x238, x239, x240, x241, x242, x243, x244, x245, x246, x247, x248, x249, x250, x251, x252, x253, x254, x255, x256, x257, x258, u259, u260, u261, u262, u263, u264, u265, u266, u267, u268, u269, u270, u271, u272, u273, u274, u275, u276, u277, u278, u279, u280, u281, u282, u283, u284, u285, u286, u287, u288, u289, u290, u291, u292, u293, u294, u295, u296, u297, u298, u299, u300, u301], []⟩ wx) :
    Code.wp Try.prog goLoopC (Exit.inBlock 4 (Exit.then K Q)) ⟨#[u0, (.slice T m d), u2, u3, u4, u5, (ptr b8), (ptr bL), (ptr b14), u9, u10, u11, u12, u13, u14, u15, u16, u17, u18, (.slice (some ⟨gs, 0, none⟩) 3 3), (.int .i64 0), (.int .i64 0), (.int .i64 0), (.int .i64 0), u24, u25, u26, u27, u28, u29, u30, u31, u32, u33, u34, u35, u36, u37, u38, u39, u40, u41, u42, u43, u44, u45, u46, u47, u48, u49, u50, u51, u52, u53, u54, u55, u56, u57, u58, u59, u60, u61, u62, u63, u64, u65, u66, u67, u68, u69, u70, u71, u72, u73, u74, u75, u76, u77, u78, u79, u80, u81, u82, u83, u84, u85, u86, u87, u88, u89, u90, u91, u92, u93, u94, u95, u96, u97, u98, u99, u100, u101, u102, u103, u104, u105, u106, u107, u108, u109, u110, u111, u112, u113, u114, u115, u116, u117, u118, u119, u120, u121, u122, u123, u124, u125, u126, u127, u128, u129, u130, u131, u132, u133, u134, u135, u136, u137, u138, u139, u140, u141, u142, u143, u144, u145, u146, u147, u148, u149, u150, u151, u152, u153, u154, u155, u156, u157, u158, u159, u160, u161, u162, u163, u164, u165, u166, u167, u168, u169, u170, u171, u172, u173, u174, u175, u176, u177, u178, u179, u180, u181, u182, u183, u184, u185, u186, u187, u188, u189, u190, u191, u192, u193, u194, u195, u196, u197, u198, u199, u200, u201, u202, u203, u204, u205, u206, u207, u208, u209, u210, u211, u212, u213, u214, u215, u216, u217, u218, u219, u220, u221, u222, u223, u224, u225, u226, u227, u228, u229, u230, u231, u232, u233, u234, u235, u236, u237, u238, u239, u240, u241, u242, u243, u244, u245, u246, u247, u248, u249, u250, u251, u252, u253, u254, u255, u256, u257, u258, u259, u260, u261, u262, u263, u264, u265, u266, u267, u268, u269, u270, u271, u272, u273, u274, u275, u276, u277, u278, u279, u280, u281, u282, u283, u284, u285, u286, u287, u288, u289, u290, u291, u292, u293, u294, u295, u296, u297, u298, u299, u300, u301], []⟩ w := by
  dsimp only at hK ⊢
  have HK := Lib.hid hK
  have HQ := Lib.hid hQ
  have HT0 := Lib.hid hT
  have HWO := Lib.hid hw
  have HN := Lib.hid (And.intro hn hm)
  have HOK := Lib.hid hok
  have HS0 := Lib.hid hs0
  have HG0 := Lib.hid (And.intro hgi (And.intro hN (And.intro hN2 hnt)))
  have HR0 := Lib.hid hrep0
  have HSL := Lib.hid hsl
  obtain ⟨z1, z2, z3, z4⟩ := hnum
  clear hK hQ hT hw hn hm hok hs0 hrep0 hgi hN hN2 hnt hsl
  conv => arg 2; whnf
  go_loopw [20, 21, 22, 23] (fun v20 v21 v22 v23 wr => GRel w0 b8 gW bL b14 gs T m d l want (whosP 3 turns) s0 v20 v21 v22 v23 wr) (fun _ _ _ v23 _ => (whosP 3 turns).length - (intOf v23).toNat)
  case atStart => exact ⟨0, s0, Nat.zero_le _, by rw [HSL.out.2.1]; rfl, by rw [HSL.out.1]; rfl, by rw [HSL.out.2.2.1]; rfl, rfl, hb, rfl, HR0.out⟩
  case round =>
    clear HR0 hb
    obtain ⟨k, s, hk, rfl, rfl, rfl, rfl, hbl, hrun, hrep⟩ := hrel
    have hlen : (whosP 3 turns).length = m + 180 := by rw [whosP_length, HN.out.2]
    have hinv : PInv 3 s0.m.length (0 + (whosP 3 turns).length) s := (PInv.run (gok_want HWO.out (by omega)) _ HS0.out hrun).mono (by simp; omega)
    have hgs : GInv l n N want s := by
      obtain ⟨s', e1, e2⟩ := GInv.run HOK.out HG0.out.2.2.2 HWO.out HG0.out.2.1 HG0.out.2.2.1 ((whosP 3 turns).take k) HG0.out.1
      rw [hrun] at e1
      injection e1 with e1 _
      rw [e1]
      exact e2
    rw [hlen] at hk hinv
    have HGS := Lib.hid hgs
    have HI := Lib.hid hinv
    have HRUN := Lib.hid hrun
    have HLEN := Lib.hid hlen
    obtain ⟨goes, hgoes⟩ : ∃ x, nGo s.out = x := ⟨_, rfl⟩
    obtain ⟨last, hlast⟩ : ∃ x, lastQ l s.out = x := ⟨_, rfl⟩
    obtain ⟨left, hleft⟩ : ∃ x, nAdd l s.out = x := ⟨_, rfl⟩
    have hgb : goes ≤ 400 := by rw [← hgoes]; exact Nat.le_trans (bsum_le_length _ _ fun x _ => toNat_le _) (by have := hinv.ol; omega)
    have hfb : left ≤ 400 := by rw [← hleft]; exact Nat.le_trans (bsum_le_length _ _ fun x _ => toNat_le _) (by have := hinv.ol; omega)
    rw [hgoes, hlast, hleft]
    have HCN := Lib.hid (And.intro hgoes (And.intro hlast hleft))
    clear hinv hrun hlen hgs hgoes hlast hleft
    by_cases hlt : k < m + 180
    · obtain ⟨who, hwho⟩ : ∃ who, (whosP 3 turns)[k]? = some who := ⟨_, List.getElem?_eq_getElem (by rw [HLEN.out]; exact hlt)⟩
      have hwn : who < 3 := whosP_lt (by omega) hwho
      have HWHO := Lib.hid hwho
      have HREP := Lib.hid hrep
      clear hwho hrep
      have i0 : decide ((k : Int) < m + 180) = true := by simp; omega
      obtain ⟨j, hj⟩ : ∃ j : Nat, k - m = j := ⟨_, rfl⟩
      have hmax : ∀ (w : World) (ts : Array TypeId) (t : TypeId), (Builtin.max_ ts t #[.int .i64 0, .int .i64 ((k : Int) - m)]).run Try.prog w = .ok (.int .i64 (j : Int)) w := fun w ts t => by
        rw [run_max_int2]
        congr 2
        split <;> omega
      have hjb : j ≤ 400 := by omega
      have HJ := Lib.hid hj
      clear hj
      go_upto_if 139 with fail
      clear i0 hmax
      go_cut [24] from 123 to 258 (fun v wx => v = .int .i64 who ∧ wx = wr)
      case first =>
        have w1 := HWHO.out
        by_cases hkm : k < m
        · obtain ⟨bT, oT, rfl, hbT, hcT⟩ := (HT0.out.below hbl) (by rw [HN.out.2]; omega)
          obtain ⟨tt, htt⟩ : ∃ tt, turns[k]? = some tt := ⟨_, List.getElem?_eq_getElem (by rw [HN.out.2]; exact hkm)⟩
          obtain ⟨q3, q4⟩ := hcT k tt htt
          rw [whosP_left htt] at w1
          injection w1 with w1
          have HW1 := Lib.hid w1
          clear w1 hcT htt
          have i1 : (k : Int) < m := by omega
          go_wp2_with fail
          go_meet
          exact ⟨by rw [← HW1.out]; rfl, rfl⟩
        · have i1 : decide ((k : Int) < m) = false := by simp; omega
          have i2 : decide (k < m) = false := by simp; omega
          rw [whosP_right (by rw [HN.out.2]; omega) (by rw [HN.out.2]; exact hlt), HN.out.2] at w1
          injection w1 with w1
          have HW1 := Lib.hid w1
          clear w1
          go_wp2_with fail
          go_meet
          exact ⟨by rw [← HW1.out, HJ.out]; rfl, rfl⟩
      case rest =>
        obtain ⟨rfl, hwc⟩ := hcut
        subst wc
        clear HJ hjb
        obtain ⟨cs, hse⟩ := HREP.out.seats
        obtain ⟨x, hx⟩ : ∃ x, s.seats[who]? = some x := ⟨_, List.getElem?_eq_getElem (by rw [HI.out.ns]; exact hwn)⟩
        obtain ⟨G, cp, e1, e2, hres⟩ := hse.at_ who x hx
        have c1 := (hse.row.cell (who * 2)).trans e1
        have c2 := (hse.row.cell (who * 2 + 1)).trans e2
        have zS := hse.row.lt
        have hxm := List.mem_of_getElem? hx
        have hxa : x.1 ≤ 400 := by have := HI.out.al x hxm; omega
        have hxl : x.2.length ≤ 400 := by have := HI.out.ll x hxm; omega
        have HX := Lib.hid hx
        have HXR := Lib.hid (HI.out.lr x hxm)
        have HRES := Lib.hid hres
        obtain ⟨ops, hops⟩ : ∃ ops, want[who]? = some ops := ⟨_, List.getElem?_eq_getElem (by rw [HN.out.1]; exact hwn)⟩
        obtain ⟨AO, cO, cW, hsO⟩ := HREP.out.wa.at_ hops
        have kP := HREP.out.wa.kP
        have HO := Lib.hid hops
        have HSO := Lib.hid hsO
        clear hx hxm hres hse e1 e2 hops hsO
        obtain ⟨at_, log⟩ := x
        dsimp only at c1 c2 hxa hxl HXR HRES
        have hmin : ∀ (w : World) (ts : Array TypeId) (t : TypeId), (Builtin.min_ ts t #[.int .i64 (who : Int), .int .i64 2]).run Try.prog w = .ok (.int .i64 (who : Int)) w := fun w ts t => by
          rw [run_min_int2]
          congr 2
          split <;> omega
        have HMIN := Lib.hid hmin
        have g3 : (who : Int) < 3 := by omega
        have z0 := kP.lt
        have zW := cell_lt cW
        dsimp only at zW
        replace kP := kP.alloc (.cells #[.int .i64 (at_ : Nat), .slice G log.length cp] 63)
        have kX := Bk.made wr 63 #[.int .i64 (at_ : Nat), .slice G log.length cp]
        have cW2 : (wr.alloc (.cells #[.int .i64 (at_ : Nat), .slice G log.length cp] 63)).cell? ⟨gW, who, none⟩ = some (.slice AO ops.length cO) := (World.cell?_alloc_lt _ _ _ zW).trans cW
        go_upto_region 35 with fail
        clear c1 c2 cW hmin
        have hbc : Below wr.heap.size wr (wr.alloc (.cells #[.int .i64 (at_ : Nat), .slice G log.length cp] 63)) := below_al (Below.refl _ _) _
        refine wp_region_E (S := fun w' => Bk w' b8 27 (playC 7 (some ⟨gW, 0, none⟩) 3 3 T m d) ∧ Bk w' wr.heap.size 63 #[.int .i64 (at_ : Nat), .slice G log.length cp] ∧ w'.cell? ⟨gW, who, none⟩ = some (.slice AO ops.length cO)) (E := fun _ => false) (by kernel_rfl) ?_
        replace kP := kP.drew
        replace kX := kX.drew
        replace hbc := below_drew hbc
        replace cW2 : (wr.alloc (.cells #[.int .i64 (at_ : Nat), .slice G log.length cp] 63)).drew.cell? ⟨gW, who, none⟩ = some (.slice AO ops.length cO) := cW2
        generalize (wr.alloc (.cells #[.int .i64 (at_ : Nat), .slice G log.length cp] 63)).drew = w5 at *
        obtain ⟨bX, hbX⟩ : ∃ b, wr.heap.size = b := ⟨_, rfl⟩
        rw [hbX] at kX zS z0 zW
        rw [hbX]
        have HBX := Lib.hid hbX
        clear hbX
        have HBC := Lib.hid hbc
        clear hbc
        refine wpAnyE_take (i := 0) (oi := _) (v := .int .i64 (who : Nat)) rfl (by kernel_rfl) (by kernel_rfl) (by kernel_rfl) (by kernel_rfl) (fun _ _ _ h => HQ.out _ _ _ _ _ h) (Or.inl ⟨by rfl, ?_⟩) ⟨kP, kX, cW2⟩ ?_
        · intro w' hSw
          (try simp only [List.getElem_toArray, List.getElem_cons_zero])
          go_simp
        (try simp only [List.getElem_toArray, List.getElem_cons_zero, Act.put, List.setIfInBounds_toArray, List.set_cons_zero, List.set_cons_succ])
        refine wpAnyE_take (i := 1) (oi := _) (v := .bool false) rfl (by kernel_rfl) (by kernel_rfl) (by kernel_rfl) (by kernel_rfl) (fun _ _ _ h => HQ.out _ _ _ _ _ h) (Or.inl ⟨by rfl, ?_⟩) ⟨kP, kX, cW2⟩ ?_
        · intro w' hSw
          have g2 : decide ((2 : Int) < who) = false := by simp; omega
          (try simp only [List.getElem_toArray, List.getElem_cons_succ, List.getElem_cons_zero])
          go_simp
        (try simp only [List.getElem_toArray, List.getElem_cons_succ, List.getElem_cons_zero, Act.put, List.setIfInBounds_toArray, List.set_cons_zero, List.set_cons_succ])
        refine wpAnyE_take (i := 2) (oi := _) (v := .bool false) rfl (by kernel_rfl) (by kernel_rfl) (by kernel_rfl) (by kernel_rfl) (fun _ _ _ h => HQ.out _ _ _ _ _ h) (Or.inl ⟨by rfl, ?_⟩) ⟨kP, kX, cW2⟩ ?_
        · intro w' hSw
          (try simp only [List.getElem_toArray, List.getElem_cons_succ, List.getElem_cons_zero])
          go_simp
        (try simp only [List.getElem_toArray, List.getElem_cons_succ, List.getElem_cons_zero, Act.put, List.setIfInBounds_toArray, List.set_cons_zero, List.set_cons_succ])
        refine wpAnyE_take (i := 3) (oi := _) (v := .pointer (some ⟨bX, 0, none⟩)) rfl (by kernel_rfl) (by kernel_rfl) (by kernel_rfl) (by kernel_rfl) (fun _ _ _ h => HQ.out _ _ _ _ _ h) (Or.inl ⟨by rfl, ?_⟩) ⟨kP, kX, cW2⟩ ?_
        · intro w' hSw
          (try simp only [List.getElem_toArray, List.getElem_cons_succ, List.getElem_cons_zero])
          go_simp
        (try simp only [List.getElem_toArray, List.getElem_cons_succ, List.getElem_cons_zero, Act.put, List.setIfInBounds_toArray, List.set_cons_zero, List.set_cons_succ])
        refine wpAnyE_take (i := 4) (oi := _) (v := .int .i64 (at_ : Nat)) rfl (by kernel_rfl) (by kernel_rfl) (by kernel_rfl) (by kernel_rfl) (fun _ _ _ h => HQ.out _ _ _ _ _ h) (Or.inl ⟨by rfl, ?_⟩) ⟨kP, kX, cW2⟩ ?_
        · intro w' hSw
          have s1 := hSw.1.cell 1
          have s2 := hSw.2.1.cell 0
          have s3 := hSw.2.2
          (try simp at s1 s2 s3)
          (try simp only [List.getElem_toArray, List.getElem_cons_succ, List.getElem_cons_zero])
          go_simp
        (try simp only [List.getElem_toArray, List.getElem_cons_succ, List.getElem_cons_zero, Act.put, List.setIfInBounds_toArray, List.set_cons_zero, List.set_cons_succ])
        refine wpAnyE_take (i := 5) (oi := _) (v := .pointer (some ⟨b8, 1, none⟩)) rfl (by kernel_rfl) (by kernel_rfl) (by kernel_rfl) (by kernel_rfl) (fun _ _ _ h => HQ.out _ _ _ _ _ h) (Or.inl ⟨by rfl, ?_⟩) ⟨kP, kX, cW2⟩ ?_
        · intro w' hSw
          (try simp only [List.getElem_toArray, List.getElem_cons_succ, List.getElem_cons_zero])
          go_simp
        (try simp only [List.getElem_toArray, List.getElem_cons_succ, List.getElem_cons_zero, Act.put, List.setIfInBounds_toArray, List.set_cons_zero, List.set_cons_succ])
        refine wpAnyE_take (i := 6) (oi := _) (v := .slice (some ⟨gW, 0, none⟩) 3 3) rfl (by kernel_rfl) (by kernel_rfl) (by kernel_rfl) (by kernel_rfl) (fun _ _ _ h => HQ.out _ _ _ _ _ h) (Or.inl ⟨by rfl, ?_⟩) ⟨kP, kX, cW2⟩ ?_
        · intro w' hSw
          have s1 := hSw.1.cell 1
          have s2 := hSw.2.1.cell 0
          have s3 := hSw.2.2
          (try simp at s1 s2 s3)
          (try simp only [List.getElem_toArray, List.getElem_cons_succ, List.getElem_cons_zero])
          go_simp
        (try simp only [List.getElem_toArray, List.getElem_cons_succ, List.getElem_cons_zero, Act.put, List.setIfInBounds_toArray, List.set_cons_zero, List.set_cons_succ])
        refine wpAnyE_take (i := 7) (oi := _) (v := .int .i64 (who : Nat)) rfl (by kernel_rfl) (by kernel_rfl) (by kernel_rfl) (by kernel_rfl) (fun _ _ _ h => HQ.out _ _ _ _ _ h) (Or.inl ⟨by rfl, ?_⟩) ⟨kP, kX, cW2⟩ ?_
        · intro w' hSw
          (try simp only [List.getElem_toArray, List.getElem_cons_succ, List.getElem_cons_zero])
          go_simp
        (try simp only [List.getElem_toArray, List.getElem_cons_succ, List.getElem_cons_zero, Act.put, List.setIfInBounds_toArray, List.set_cons_zero, List.set_cons_succ])
        refine wpAnyE_take (i := 8) (oi := _) (v := .int .i64 (who : Nat)) rfl (by kernel_rfl) (by kernel_rfl) (by kernel_rfl) (by kernel_rfl) (fun _ _ _ h => HQ.out _ _ _ _ _ h) (Or.inl ⟨by rfl, ?_⟩) ⟨kP, kX, cW2⟩ ?_
        · intro w' hSw
          have m1 := HMIN.out
          (try simp only [List.getElem_toArray, List.getElem_cons_succ, List.getElem_cons_zero])
          go_simp
        (try simp only [List.getElem_toArray, List.getElem_cons_succ, List.getElem_cons_zero, Act.put, List.setIfInBounds_toArray, List.set_cons_zero, List.set_cons_succ])
        refine wpAnyE_take (i := 9) (oi := _) (v := .pointer (some ⟨gW, who, none⟩)) rfl (by kernel_rfl) (by kernel_rfl) (by kernel_rfl) (by kernel_rfl) (fun _ _ _ h => HQ.out _ _ _ _ _ h) (Or.inl ⟨by rfl, ?_⟩) ⟨kP, kX, cW2⟩ ?_
        · intro w' hSw
          (try simp only [List.getElem_toArray, List.getElem_cons_succ, List.getElem_cons_zero])
          go_simp
        (try simp only [List.getElem_toArray, List.getElem_cons_succ, List.getElem_cons_zero, Act.put, List.setIfInBounds_toArray, List.set_cons_zero, List.set_cons_succ])
        refine wpAnyE_take (i := 10) (oi := _) (v := .slice AO ops.length cO) rfl (by kernel_rfl) (by kernel_rfl) (by kernel_rfl) (by kernel_rfl) (fun _ _ _ h => HQ.out _ _ _ _ _ h) (Or.inl ⟨by rfl, ?_⟩) ⟨kP, kX, cW2⟩ ?_
        · intro w' hSw
          have s1 := hSw.1.cell 1
          have s2 := hSw.2.1.cell 0
          have s3 := hSw.2.2
          (try simp at s1 s2 s3)
          (try simp only [List.getElem_toArray, List.getElem_cons_succ, List.getElem_cons_zero])
          go_simp
        (try simp only [List.getElem_toArray, List.getElem_cons_succ, List.getElem_cons_zero, Act.put, List.setIfInBounds_toArray, List.set_cons_zero, List.set_cons_succ])
        refine wpAnyE_take (i := 11) (oi := _) (v := .int .i64 (ops.length : Nat)) rfl (by kernel_rfl) (by kernel_rfl) (by kernel_rfl) (by kernel_rfl) (fun _ _ _ h => HQ.out _ _ _ _ _ h) (Or.inl ⟨by rfl, ?_⟩) ⟨kP, kX, cW2⟩ ?_
        · intro w' hSw
          (try simp only [List.getElem_toArray, List.getElem_cons_succ, List.getElem_cons_zero])
          go_simp
        (try simp only [List.getElem_toArray, List.getElem_cons_succ, List.getElem_cons_zero, Act.put, List.setIfInBounds_toArray, List.set_cons_zero, List.set_cons_succ])
        refine wpAnyE_take (i := 12) (oi := _) (v := .bool (decide ((ops.length : Int) ≤ (at_ : Nat)))) rfl (by kernel_rfl) (by kernel_rfl) (by kernel_rfl) (by kernel_rfl) (fun _ _ _ h => HQ.out _ _ _ _ _ h) (Or.inl ⟨by rfl, ?_⟩) ⟨kP, kX, cW2⟩ ?_
        · intro w' hSw
          (try simp only [List.getElem_toArray, List.getElem_cons_succ, List.getElem_cons_zero])
          go_simp
        (try simp only [List.getElem_toArray, List.getElem_cons_succ, List.getElem_cons_zero, Act.put, List.setIfInBounds_toArray, List.set_cons_zero, List.set_cons_succ])
        refine wpAnyE_take (i := 13) (oi := _) (v := .bool (decide ((ops.length : Int) ≤ (at_ : Nat)))) rfl (by kernel_rfl) (by kernel_rfl) (by kernel_rfl) (by kernel_rfl) (fun _ _ _ h => HQ.out _ _ _ _ _ h) (Or.inl ⟨by rfl, ?_⟩) ⟨kP, kX, cW2⟩ ?_
        · intro w' hSw
          (try simp only [List.getElem_toArray, List.getElem_cons_succ, List.getElem_cons_zero])
          go_simp
        (try simp only [List.getElem_toArray, List.getElem_cons_succ, List.getElem_cons_zero, Act.put, List.setIfInBounds_toArray, List.set_cons_zero, List.set_cons_succ])
        refine wpAnyE_done (by kernel_rfl) ?_ _
        by_cases hat : ops.length ≤ at_
        · have g4 : decide ((ops.length : Int) ≤ (at_ : Nat)) = true := by simp; omega
          have g5 : decide (ops.length ≤ at_) = true := by simp; omega
          have hturn : turnP l want who s = some s := by
            unfold turnP
            rw [HX.out]
            dsimp only
            rw [List.getD_eq_getElem?_getD, HO.out, Option.getD_some, List.getElem?_eq_none hat]
          have HT := Lib.hid (runP_snoc HRUN.out hturn)
          clear hturn cW2 kP
          go_wp2_with fail
          go_roundw
          case rel =>
            refine ⟨k + 1, s, by rw [HLEN.out]; omega, by rw [HCN.out.1], by rw [HCN.out.2.1], by rw [HCN.out.2.2], by go_num, below_tr hbl HBC.out, ?_, HREP.out.keep HBC.out⟩
            rw [List.take_add_one, HWHO.out]
            exact HT.out
          case measure => rw [HLEN.out]; simp [intOf]; omega
        · have g4 : decide ((ops.length : Int) ≤ (at_ : Nat)) = false := by simp; omega
          have g5 : decide (ops.length ≤ at_) = false := by simp; omega
          obtain ⟨op, hop⟩ : ∃ op, ops[at_]? = some op := ⟨_, List.getElem?_eq_getElem (by omega)⟩
          obtain ⟨bO, oO, rfl, hbO, hcO⟩ := (slOps_own HSO.out) (by omega)
          obtain ⟨p1, p2, p3, p4⟩ := hcO at_ op hop
          have HOP := Lib.hid hop
          have hgop := HWO.out ops (List.mem_of_getElem? HO.out) op (List.mem_of_getElem? hop)
          have hopr : inR op.a ∧ inR op.b := gok_want HWO.out (by omega) ops (List.mem_of_getElem? HO.out) op (List.mem_of_getElem? hop)
          obtain ⟨ok, oj, oa, ob⟩ := op
          dsimp only at p1 p2 p3 p4 hopr
          have HGOP := Lib.hid hgop
          have HOPR := Lib.hid hopr
          clear hcO hop hgop hopr
          have g6 : (at_ : Int) < ops.length := by omega
          go_upto_region 36 with fail
          clear g4 g5
          have hO5 : bO < wr.heap.size := hbO
          have hbc := below_drew HBC.out
          have q1 := (HBC.out.cell (p := ⟨bO, _, none⟩) hO5).trans p1
          have q2 := (HBC.out.cell (p := ⟨bO, _, none⟩) hO5).trans p2
          have q3 := (HBC.out.cell (p := ⟨bO, _, none⟩) hO5).trans p3
          have q4 := (HBC.out.cell (p := ⟨bO, _, none⟩) hO5).trans p4
          refine wp_region_E (S := fun w' => Below w5.drew.heap.size w5.drew w') (E := fun i => i == 10) (by kernel_rfl) ?_
          clear p1 p2 p3 p4 HBC
          replace kX := kX.drew
          replace kP := kP.drew
          replace cW2 : w5.drew.cell? ⟨gW, who, none⟩ = some (.slice (some ⟨bO, oO, none⟩) ops.length cO) := cW2
          replace q1 : w5.drew.cell? ⟨bO, oO + at_ * 4, none⟩ = some (.int .i64 ok) := q1
          replace q2 : w5.drew.cell? ⟨bO, oO + at_ * 4 + 1, none⟩ = some (.int .i64 oj) := q2
          replace q3 : w5.drew.cell? ⟨bO, oO + at_ * 4 + 2, none⟩ = some (.int .i64 oa) := q3
          replace q4 : w5.drew.cell? ⟨bO, oO + at_ * 4 + 3, none⟩ = some (.int .i64 ob) := q4
          generalize w5.drew = w6 at *
          have HQ4 := Lib.hid (And.intro cW2 (And.intro q1 (And.intro q2 (And.intro q3 q4))))
          have HBC := Lib.hid hbc
          clear hbc cW2 q1 q2 q3 q4
          refine wpAnyE_take (i := 0) (oi := _) (v := .pointer (some ⟨b8, 1, none⟩)) rfl (by kernel_rfl) (by kernel_rfl) (by kernel_rfl) (by kernel_rfl) (fun _ _ _ h => HQ.out _ _ _ _ _ h) (Or.inl ⟨by rfl, ?_⟩) (Below.refl _ _) ?_
          · intro w' hSw
            (try simp only [List.getElem_toArray, List.getElem_cons_zero])
            go_simp
          (try simp only [List.getElem_toArray, List.getElem_cons_zero, Act.put, List.setIfInBounds_toArray, List.set_cons_zero, List.set_cons_succ])
          refine wpAnyE_take (i := 1) (oi := _) (v := .slice (some ⟨gW, 0, none⟩) 3 3) rfl (by kernel_rfl) (by kernel_rfl) (by kernel_rfl) (by kernel_rfl) (fun _ _ _ h => HQ.out _ _ _ _ _ h) (Or.inl ⟨by rfl, ?_⟩) (Below.refl _ _) ?_
          · intro w' hSw
            have s1 := (kP.keep hSw).cell 1
            have s2 := (kX.keep hSw).cell 0
            have s3 := cell_keep hSw HQ4.out.1
            (try simp at s1 s2 s3)
            (try simp only [List.getElem_toArray, List.getElem_cons_succ, List.getElem_cons_zero])
            go_simp
          (try simp only [List.getElem_toArray, List.getElem_cons_succ, List.getElem_cons_zero, Act.put, List.setIfInBounds_toArray, List.set_cons_zero, List.set_cons_succ])
          refine wpAnyE_take (i := 2) (oi := _) (v := .int .i64 (who : Nat)) rfl (by kernel_rfl) (by kernel_rfl) (by kernel_rfl) (by kernel_rfl) (fun _ _ _ h => HQ.out _ _ _ _ _ h) (Or.inl ⟨by rfl, ?_⟩) (Below.refl _ _) ?_
          · intro w' hSw
            (try simp only [List.getElem_toArray, List.getElem_cons_succ, List.getElem_cons_zero])
            go_simp
          (try simp only [List.getElem_toArray, List.getElem_cons_succ, List.getElem_cons_zero, Act.put, List.setIfInBounds_toArray, List.set_cons_zero, List.set_cons_succ])
          refine wpAnyE_take (i := 3) (oi := _) (v := .pointer (some ⟨gW, who, none⟩)) rfl (by kernel_rfl) (by kernel_rfl) (by kernel_rfl) (by kernel_rfl) (fun _ _ _ h => HQ.out _ _ _ _ _ h) (Or.inl ⟨by rfl, ?_⟩) (Below.refl _ _) ?_
          · intro w' hSw
            (try simp only [List.getElem_toArray, List.getElem_cons_succ, List.getElem_cons_zero])
            go_simp
          (try simp only [List.getElem_toArray, List.getElem_cons_succ, List.getElem_cons_zero, Act.put, List.setIfInBounds_toArray, List.set_cons_zero, List.set_cons_succ])
          refine wpAnyE_take (i := 4) (oi := _) (v := .slice (some ⟨bO, oO, none⟩) ops.length cO) rfl (by kernel_rfl) (by kernel_rfl) (by kernel_rfl) (by kernel_rfl) (fun _ _ _ h => HQ.out _ _ _ _ _ h) (Or.inl ⟨by rfl, ?_⟩) (Below.refl _ _) ?_
          · intro w' hSw
            have s1 := (kP.keep hSw).cell 1
            have s2 := (kX.keep hSw).cell 0
            have s3 := cell_keep hSw HQ4.out.1
            (try simp at s1 s2 s3)
            (try simp only [List.getElem_toArray, List.getElem_cons_succ, List.getElem_cons_zero])
            go_simp
          (try simp only [List.getElem_toArray, List.getElem_cons_succ, List.getElem_cons_zero, Act.put, List.setIfInBounds_toArray, List.set_cons_zero, List.set_cons_succ])
          refine wpAnyE_take (i := 5) (oi := _) (v := .pointer (some ⟨bX, 0, none⟩)) rfl (by kernel_rfl) (by kernel_rfl) (by kernel_rfl) (by kernel_rfl) (fun _ _ _ h => HQ.out _ _ _ _ _ h) (Or.inl ⟨by rfl, ?_⟩) (Below.refl _ _) ?_
          · intro w' hSw
            (try simp only [List.getElem_toArray, List.getElem_cons_succ, List.getElem_cons_zero])
            go_simp
          (try simp only [List.getElem_toArray, List.getElem_cons_succ, List.getElem_cons_zero, Act.put, List.setIfInBounds_toArray, List.set_cons_zero, List.set_cons_succ])
          refine wpAnyE_take (i := 6) (oi := _) (v := .int .i64 (at_ : Nat)) rfl (by kernel_rfl) (by kernel_rfl) (by kernel_rfl) (by kernel_rfl) (fun _ _ _ h => HQ.out _ _ _ _ _ h) (Or.inl ⟨by rfl, ?_⟩) (Below.refl _ _) ?_
          · intro w' hSw
            have s1 := (kP.keep hSw).cell 1
            have s2 := (kX.keep hSw).cell 0
            have s3 := cell_keep hSw HQ4.out.1
            (try simp at s1 s2 s3)
            (try simp only [List.getElem_toArray, List.getElem_cons_succ, List.getElem_cons_zero])
            go_simp
          (try simp only [List.getElem_toArray, List.getElem_cons_succ, List.getElem_cons_zero, Act.put, List.setIfInBounds_toArray, List.set_cons_zero, List.set_cons_succ])
          refine wpAnyE_take (i := 7) (oi := _) (v := .pointer (some ⟨bO, oO + at_ * 4, none⟩)) rfl (by kernel_rfl) (by kernel_rfl) (by kernel_rfl) (by kernel_rfl) (fun _ _ _ h => HQ.out _ _ _ _ _ h) (Or.inl ⟨by rfl, ?_⟩) (Below.refl _ _) ?_
          · intro w' hSw
            (try simp only [List.getElem_toArray, List.getElem_cons_succ, List.getElem_cons_zero])
            go_simp
          (try simp only [List.getElem_toArray, List.getElem_cons_succ, List.getElem_cons_zero, Act.put, List.setIfInBounds_toArray, List.set_cons_zero, List.set_cons_succ])
          refine wpAnyE_take (i := 8) (oi := _) (v := .agg #[.int .i64 ok, .int .i64 oj, .int .i64 oa, .int .i64 ob]) rfl (by kernel_rfl) (by kernel_rfl) (by kernel_rfl) (by kernel_rfl) (fun _ _ _ h => HQ.out _ _ _ _ _ h) (Or.inl ⟨by rfl, ?_⟩) (Below.refl _ _) ?_
          · intro w' hSw
            have s4 := cell_keep hSw HQ4.out.2.1
            have s5 := cell_keep hSw HQ4.out.2.2.1
            have s6 := cell_keep hSw HQ4.out.2.2.2.1
            have s7 := cell_keep hSw HQ4.out.2.2.2.2
            (try simp at s4 s5 s6 s7)
            (try simp only [List.getElem_toArray, List.getElem_cons_succ, List.getElem_cons_zero])
            go_simp
          (try simp only [List.getElem_toArray, List.getElem_cons_succ, List.getElem_cons_zero, Act.put, List.setIfInBounds_toArray, List.set_cons_zero, List.set_cons_succ])
          refine wpAnyE_one (i := 9) (o := _) (by kernel_rfl) rfl (fun K hK => ?_)
          (try simp only [List.getElem_toArray, List.getElem_cons_succ, List.getElem_cons_zero])
          go_simp
          have kS := Bk.made w6 30 #[.int .i64 0, .int .i64 0, .int .i64 0, .int .i64 0]
          have hbc := below_al HBC.out (.cells #[.int .i64 0, .int .i64 0, .int .i64 0, .int .i64 0] 30)
          have zX := kX.lt
          replace kX := kX.alloc (.cells #[.int .i64 0, .int .i64 0, .int .i64 0, .int .i64 0] 30)
          refine hK.out _ _ (fun _ => below_al (Below.refl _ _) _) ?_
          clear hK K
          (try simp only [List.getElem_toArray, List.getElem_cons_succ, List.getElem_cons_zero, Act.put, List.setIfInBounds_toArray, List.set_cons_zero, List.set_cons_succ])
          clear kP HQ4
          generalize (w6.alloc (.cells #[.int .i64 0, .int .i64 0, .int .i64 0, .int .i64 0] 30)) = w7 at *
          generalize w6.heap.size = bS at *
          clear HBC
          refine wpAnyE_one (i := 10) (o := _) (by kernel_rfl) rfl (fun K hK => ?_)
          rw [if_pos (by rfl)]
          refine wp_store_row 30 (.tmp 26) (.tmp 173) rfl bS #[.int .i64 ok, .int .i64 oj, .int .i64 oa, .int .i64 ob] rfl rfl 30 #[.int .i64 0, .int .i64 0, .int .i64 0, .int .i64 0] kS (by kernel_rfl) rfl (by simp [Value.oneCell']) ?_
          replace kX : Bk (w7.setRow bS #[.int .i64 ok, .int .i64 oj, .int .i64 oa, .int .i64 ob]) bX 63 #[.int .i64 (at_ : Nat), .slice G log.length cp] := (setRow_other _ _ _ _ (by omega)).trans kX
          replace kS : Bk (w7.setRow bS #[.int .i64 ok, .int .i64 oj, .int .i64 oa, .int .i64 ob]) bS 30 #[.int .i64 ok, .int .i64 oj, .int .i64 oa, .int .i64 ob] := setRow_heap _ _ #[.int .i64 0, .int .i64 0, .int .i64 0, .int .i64 0] #[.int .i64 ok, .int .i64 oj, .int .i64 oa, .int .i64 ob] 30 (0, 0) kS
          replace hbc := below_setRow hbc (g := bS) (by rw [HBX.out]; omega) #[.int .i64 ok, .int .i64 oj, .int .i64 oa, .int .i64 ob]
          refine hK.out _ _ (by simp) ?_
          clear hK K
          (try simp only [List.getElem_toArray, List.getElem_cons_succ, List.getElem_cons_zero, Act.put])
          generalize (w7.setRow bS #[.int .i64 ok, .int .i64 oj, .int .i64 oa, .int .i64 ob]) = w8 at *
          have HBC := Lib.hid hbc
          clear hbc
          refine wpAnyE_done (by kernel_rfl) ?_ _
          have kL := HREP.out.kL.keep HBC.out
          have x0 := kX.cell 1
          have y0 := kS.cell 0
          have y1 := kS.cell 1
          have y2 := kS.cell 2
          have y3 := kS.cell 3
          have zz := kS.lt
          simp at x0 y0 y1 y2 y3
          go_wp2_with (refine wpList_load_row rfl 34 (.tmp 7) rfl bL rfl 34 (lyC l) (0, 0) _ kL Try.underlying34 rfl (by kernel_rfl) ?_)
          clear y0 y1 y2 y3 x0
          have hsl : SlRes w8 w8.heap.size G log := slRes_of_own (base := 0) (cap := cp) (own_keepb HRES.out HBC.out)
          have hlr : ∀ x ∈ log, -9223372036854775808 ≤ x.1 ∧ x.1 ≤ 9223372036854775807 := HXR.out
          have hoa : oa ≤ 9223372036854775807 := by have h1 := HOPR.out.1; unfold inR at h1; exact h1.2
          (with_reducible refine (next_any l who (⟨ok, oj, oa, ob⟩ : Opr) G cp log _ HOK.out.fit hoa hsl (by omega) hlr).mono ?_)
          clear hsl hlr hoa
          intro e w9 hpost
          replace hpost := ansPost_of hpost
          obtain ⟨ans, hans⟩ : ∃ a', nextA l (⟨ok, oj, oa, ob⟩ : Opr) log = a' := ⟨_, rfl⟩
          rw [hans] at hpost
          have HANS := Lib.hid hans
          clear hans
          have hwl : who < s.seats.length := by rw [HI.out.ns]; exact hwn
          have hw0 : (want.getD who [])[at_]? = some (⟨ok, oj, oa, ob⟩ : Opr) := by rw [List.getD_eq_getElem?_getD, HO.out, Option.getD_some, HOP.out]
          have HW0 := Lib.hid hw0
          clear hw0
          cases ans with
          | out val is err point =>
            obtain ⟨rfl, hb⟩ := hpost
            replace kS := kS.keep hb
            replace kX := kX.keep hb
            have hbc := below_tr HBC.out hb
            clear hb HBC kL zz
            go_upto_region 38 with fail
            have zS9 := kS.lt
            have kO := Bk.new (w9.alloc (.cells accZ 44)) (g := w9.heap.size + 1) (by simp) 50 (outC val is err point)
            replace kS := (kS.alloc (.cells accZ 44)).alloc (.cells (outC val is err point) 50)
            replace kX := (kX.alloc (.cells accZ 44)).alloc (.cells (outC val is err point) 50)
            replace hbc := below_al (below_al hbc (.cells accZ 44)) (.cells (outC val is err point) 50)
            generalize (w9.alloc (.cells accZ 44)).alloc (.cells (outC val is err point) 50) = w10 at *
            generalize w9.heap.size = bA at *
            have hrep := HREP.out.keep hbc
            have hbl2 := below_tr hbl hbc
            have HT := Lib.hid (runP_snoc HRUN.out (turn_out HX.out HW0.out HANS.out))
            have hsaid := HGS.out.said HOK.out HG0.out.2.2.2 HWO.out HX.out HW0.out HANS.out
            rw [HCN.out.2.1] at hsaid
            obtain ⟨gq, hgq⟩ : ∃ b, goQ (doneStep who at_ ⟨ok, oj, oa, ob⟩ val is err point) = b := ⟨_, rfl⟩
            rw [hgq] at hsaid
            have HSAID := Lib.hid hsaid
            have HGQ := Lib.hid hgq
            have HR := Lib.hid hrep
            have HB2 := Lib.hid hbl2
            clear hbc hsaid hgq hrep hbl2
            have y0 := kS.cell 0
            have v0 := kO.cell 0
            have v1 := kO.cell 1
            have lS := kS.lt
            have lO := kO.lt
            have x0 := kX.cell 0
            have lX := kX.lt
            simp at y0 v0 v1 x0
            go_upto_region 39 with fail
            go_cut [201] from 185 to 201 (fun v wx => v = .bool gq ∧ wx = w10)
            case first =>
              rcases HGOP.out with he | ⟨a, he, a1, a2⟩
              · injection he with he1 he2 he3 he4
                subst he1
                cases is
                · go_wp2_with fail
                  go_meet
                  exact ⟨by rw [← HGQ.out]; simp [goQ, doneStep], rfl⟩
                · go_wp2_with fail
                  go_meet
                  exact ⟨by rw [← HGQ.out]; simp [goQ, doneStep], rfl⟩
              · injection he with he1 he2 he3 he4
                subst he1
                by_cases hv : val = 1
                · subst hv
                  go_wp2_with fail
                  go_meet
                  exact ⟨by rw [← HGQ.out]; simp [goQ, doneStep], rfl⟩
                · have hv1 : (val == (1 : Int)) = false := by simp [hv]
                  have hv2 : decide (val = (1 : Int)) = false := by simp [hv]
                  go_wp2_with fail
                  go_meet
                  exact ⟨by rw [← HGQ.out]; simp [goQ, doneStep, hv], rfl⟩
            case rest =>
              obtain ⟨rfl, hwc⟩ := hcut
              subst wc
              clear y0 v0 v1
              have hfin : ∀ wz : World, wz = (w10.setCell ⟨gs, who * 2, none⟩ (.int .i64 ((at_ + 1 : Nat) : Int))).setCell ⟨gs, who * 2 + 1, none⟩ (.slice none 0 0) → GRep wz b8 gW bL b14 gs T m d want l ⟨s.m, s.seats.set who (at_ + 1, []), s.out ++ [doneStep who at_ ⟨ok, oj, oa, ob⟩ val is err point]⟩ ∧ Below w0.heap.size w0 wz := by
                intro wz hwz
                subst hwz
                have h2 := HR.out.seat (who := who) (a := at_ + 1) (log := []) (G := none) (cap := 0) (out := s.out ++ [doneStep who at_ ⟨ok, oj, oa, ob⟩ val is err point]) hwl (World.ownsRow_nil _ _ _ _)
                exact ⟨h2, below_set (below_set HB2.out (p := ⟨gs, who * 2, none⟩) (by dsimp only; omega) _) (p := ⟨gs, who * 2 + 1, none⟩) (by dsimp only; omega) _⟩
              have HFIN := Lib.hid hfin
              obtain ⟨cs', hse⟩ := HR.out.seats
              obtain ⟨G', cp', e1, e2, _⟩ := hse.at_ who _ HX.out
              have c1 := (hse.row.cell (who * 2)).trans e1
              have c2 := (hse.row.cell (who * 2 + 1)).trans e2
              have f1 := hse.row.free (who * 2)
              have f2 := hse.row.free (who * 2 + 1)
              have l1 := hse.row.lt
              clear hse e1 e2 hfin
              cases gq with
              | false =>
                go_wp2_with fail
                obtain ⟨q1, q2⟩ := HFIN.out _ rfl
                refine ⟨⟨k + 1, _, by rw [HLEN.out]; omega, ?_, ?_, ?_, by go_num, q2, ?_, q1⟩, by rw [HLEN.out]; simp [intOf]; omega⟩
                · rw [nGo_snoc, HGQ.out, HCN.out.1]; rfl
                · rw [lastQ_snoc, show addQ l (doneStep who at_ ⟨ok, oj, oa, ob⟩ val is err point) = false from rfl, HCN.out.2.1]; rfl
                · rw [nAdd_snoc, show addQ l (doneStep who at_ ⟨ok, oj, oa, ob⟩ val is err point) = false from rfl, HCN.out.2.2]; rfl
                · rw [List.take_add_one, HWHO.out]
                  exact HT.out
              | true =>
                obtain rfl : last = 10 * who + at_ + 1 := HSAID.out rfl
                have hl1 : (((10 * who + at_ + 1 : Nat) : Int) != 10 * (who : Int) + at_ + 1) = false := by simp
                have hl2 : (((10 * who + at_ + 1 : Nat) : Int)) = 10 * (who : Int) + at_ + 1 := by omega
                rw [hl2] at hl1 ⊢
                go_wp2_with fail
                obtain ⟨q1, q2⟩ := HFIN.out _ rfl
                refine ⟨⟨k + 1, _, by rw [HLEN.out]; omega, ?_, ?_, ?_, by go_num, q2, ?_, q1⟩, by rw [HLEN.out]; simp [intOf]; omega⟩
                · rw [nGo_snoc, HGQ.out, HCN.out.1]; rfl
                · rw [lastQ_snoc, show addQ l (doneStep who at_ ⟨ok, oj, oa, ob⟩ val is err point) = false from rfl, HCN.out.2.1]; rw [← hl2]; rfl
                · rw [nAdd_snoc, show addQ l (doneStep who at_ ⟨ok, oj, oa, ob⟩ val is err point) = false from rfl, HCN.out.2.2]; rfl
                · rw [List.take_add_one, HWHO.out]
                  exact HT.out
          | ask kk cc oo vv =>
            obtain ⟨rfl, hb⟩ := hpost
            replace kX := kX.keep hb
            replace kL := kL.keep hb
            have hbc := below_tr HBC.out hb
            clear hb HBC zz kS
            have he : (⟨kk, cc, oo, vv⟩ : Acc).err s.m.length = 0 := by
              obtain ⟨s', e1, _⟩ := HGS.out.turn HOK.out HG0.out.2.2.2 HWO.out HG0.out.2.1 HG0.out.2.2.1 who
              by_cases he : (⟨kk, cc, oo, vv⟩ : Acc).err s.m.length = 0
              · exact he
              · exfalso
                unfold turnP at e1
                rw [HX.out] at e1
                dsimp only at e1
                rw [HW0.out] at e1
                dsimp only at e1
                rw [HANS.out] at e1
                dsimp only at e1
                rw [if_neg he] at e1
                cases e1
            have HHE := Lib.hid he
            clear he
            go_upto_region 44 with fail
            have kA := (Bk.made w9 44 (accC kk cc oo vv)).alloc (.cells outZ 50)
            have zS9 := kX.lt
            replace kX := (kX.alloc (.cells (accC kk cc oo vv) 44)).alloc (.cells outZ 50)
            replace kL := (kL.alloc (.cells (accC kk cc oo vv) 44)).alloc (.cells outZ 50)
            replace hbc := below_al (below_al hbc (.cells (accC kk cc oo vv) 44)) (.cells outZ 50)
            generalize (w9.alloc (.cells (accC kk cc oo vv) 44)).alloc (.cells outZ 50) = w10 at *
            generalize w9.heap.size = bA at *
            obtain ⟨gadd, hgadd⟩ : ∃ b, (decide (kk = 4) && decide (cc = taskAt l 1 1)) = b := ⟨_, rfl⟩
            have HGA := Lib.hid hgadd
            have HBC := Lib.hid hbc
            clear hgadd hbc
            go_cut [228] from 219 to 228 (fun v wx => v = .bool gadd ∧ Below w10.heap.size w10 wx)
            case first =>
              refine wp_region_E (S := fun w' => Below w10.drew.heap.size w10.drew w') (E := fun i => false) (by kernel_rfl) ?_
              replace kA := kA.drew
              replace kL := kL.drew
              have hb0 := below_drew (Below.refl w10.heap.size w10)
              generalize w10.drew = w11 at *
              have w10s : True := trivial
              by_cases hk4 : kk = 4
              · subst hk4
                have hb1 := Below.refl w11.heap.size w11
                refine wpAnyE_take (i := 0) (oi := _) (v := .pointer (some ⟨bA, 0, none⟩)) rfl (by kernel_rfl) (by kernel_rfl) (by kernel_rfl) (by kernel_rfl) (fun _ _ _ h => HQ.out _ _ _ _ _ h) (Or.inl ⟨by rfl, ?_⟩) hb1 ?_
                · intro w' hSw
                  (try simp only [List.getElem_toArray, List.getElem_cons_zero])
                  go_simp
                (try simp only [List.getElem_toArray, List.getElem_cons_zero, Act.put, List.setIfInBounds_toArray, List.set_cons_zero, List.set_cons_succ])
                refine wpAnyE_take (i := 1) (oi := _) (v := .int .i64 4) rfl (by kernel_rfl) (by kernel_rfl) (by kernel_rfl) (by kernel_rfl) (fun _ _ _ h => HQ.out _ _ _ _ _ h) (Or.inl ⟨by rfl, ?_⟩) hb1 ?_
                · intro w' hSw
                  have s1 := (kA.keep hSw).cell 0
                  (try simp at s1)
                  (try simp only [List.getElem_toArray, List.getElem_cons_succ, List.getElem_cons_zero])
                  go_simp
                (try simp only [List.getElem_toArray, List.getElem_cons_succ, List.getElem_cons_zero, Act.put, List.setIfInBounds_toArray, List.set_cons_zero, List.set_cons_succ])
                refine wpAnyE_take (i := 2) (oi := _) (v := .bool true) rfl (by kernel_rfl) (by kernel_rfl) (by kernel_rfl) (by kernel_rfl) (fun _ _ _ h => HQ.out _ _ _ _ _ h) (Or.inl ⟨by rfl, ?_⟩) hb1 ?_
                · intro w' hSw
                  (try simp only [List.getElem_toArray, List.getElem_cons_succ, List.getElem_cons_zero])
                  go_simp
                (try simp only [List.getElem_toArray, List.getElem_cons_succ, List.getElem_cons_zero, Act.put, List.setIfInBounds_toArray, List.set_cons_zero, List.set_cons_succ])
                refine wpAnyE_take (i := 3) (oi := _) (v := .bool true) rfl (by kernel_rfl) (by kernel_rfl) (by kernel_rfl) (by kernel_rfl) (fun _ _ _ h => HQ.out _ _ _ _ _ h) (Or.inl ⟨by rfl, ?_⟩) hb1 ?_
                · intro w' hSw
                  (try simp only [List.getElem_toArray, List.getElem_cons_succ, List.getElem_cons_zero])
                  go_simp
                (try simp only [List.getElem_toArray, List.getElem_cons_succ, List.getElem_cons_zero, Act.put, List.setIfInBounds_toArray, List.set_cons_zero, List.set_cons_succ])
                refine wpAnyE_take (i := 4) (oi := _) (v := .pointer (some ⟨bA, 1, none⟩)) rfl (by kernel_rfl) (by kernel_rfl) (by kernel_rfl) (by kernel_rfl) (fun _ _ _ h => HQ.out _ _ _ _ _ h) (Or.inl ⟨by rfl, ?_⟩) hb1 ?_
                · intro w' hSw
                  (try simp only [List.getElem_toArray, List.getElem_cons_succ, List.getElem_cons_zero])
                  go_simp
                (try simp only [List.getElem_toArray, List.getElem_cons_succ, List.getElem_cons_zero, Act.put, List.setIfInBounds_toArray, List.set_cons_zero, List.set_cons_succ])
                refine wpAnyE_take (i := 5) (oi := _) (v := .int .i64 cc) rfl (by kernel_rfl) (by kernel_rfl) (by kernel_rfl) (by kernel_rfl) (fun _ _ _ h => HQ.out _ _ _ _ _ h) (Or.inl ⟨by rfl, ?_⟩) hb1 ?_
                · intro w' hSw
                  have s1 := (kA.keep hSw).cell 1
                  (try simp at s1)
                  (try simp only [List.getElem_toArray, List.getElem_cons_succ, List.getElem_cons_zero])
                  go_simp
                (try simp only [List.getElem_toArray, List.getElem_cons_succ, List.getElem_cons_zero, Act.put, List.setIfInBounds_toArray, List.set_cons_zero, List.set_cons_succ])
                refine wpAnyE_take (i := 6) (oi := _) (v := .agg (lyC l)) rfl (by kernel_rfl) (by kernel_rfl) (by kernel_rfl) (by kernel_rfl) (fun _ _ _ h => HQ.out _ _ _ _ _ h) (Or.inl ⟨by rfl, ?_⟩) hb1 ?_
                · intro w' hSw
                  (try simp only [List.getElem_toArray, List.getElem_cons_succ, List.getElem_cons_zero])
                  simp only [execOp, Instr.loadAt, Instr.sureAddr, Sem.run_bind, Sem.run_pure]
                  rw [show (Act.eval _ (Operand.tmp 7)) = Value.pointer (some ⟨bL, 0, none⟩) from rfl]
                  simp only [Sem.run_pure, Result.andThen_ok, run_loadVar_row w' bL 34 34 (lyC l) (0, 0) _ (kL.keep hSw) Try.underlying34 rfl (by kernel_rfl)]
                (try simp only [List.getElem_toArray, List.getElem_cons_succ, List.getElem_cons_zero, Act.put, List.setIfInBounds_toArray, List.set_cons_zero, List.set_cons_succ])
                refine wpAnyE_one (i := 7) (o := _) (by kernel_rfl) rfl (fun K hK => ?_)
                (try simp only [List.getElem_toArray, List.getElem_cons_succ, List.getElem_cons_zero])
                go_simp
                (with_reducible refine (task_any l 1 1 _ HOK.out.fit (by omega)).mono ?_)
                rintro e w12 ⟨rfl, hb⟩
                have hb2 := below_tr hb1 hb
                refine hK.out _ _ (fun _ => hb2) ?_
                clear hK K
                (try simp only [List.getElem_toArray, List.getElem_cons_succ, List.getElem_cons_zero, Act.put, List.setIfInBounds_toArray, List.set_cons_zero, List.set_cons_succ])
                refine wpAnyE_take (i := 8) (oi := _) (v := .bool (cc == taskAt l 1 1)) rfl (by kernel_rfl) (by kernel_rfl) (by kernel_rfl) (by kernel_rfl) (fun _ _ _ h => HQ.out _ _ _ _ _ h) (Or.inl ⟨by rfl, ?_⟩) hb2 ?_
                · intro w' hSw
                  (try simp only [List.getElem_toArray, List.getElem_cons_succ, List.getElem_cons_zero])
                  go_simp
                (try simp only [List.getElem_toArray, List.getElem_cons_succ, List.getElem_cons_zero, Act.put, List.setIfInBounds_toArray, List.set_cons_zero, List.set_cons_succ])
                refine wpAnyE_take (i := 9) (oi := _) (v := .bool (cc == taskAt l 1 1)) rfl (by kernel_rfl) (by kernel_rfl) (by kernel_rfl) (by kernel_rfl) (fun _ _ _ h => HQ.out _ _ _ _ _ h) (Or.inl ⟨by rfl, ?_⟩) hb2 ?_
                · intro w' hSw
                  (try simp only [List.getElem_toArray, List.getElem_cons_succ, List.getElem_cons_zero])
                  go_simp
                (try simp only [List.getElem_toArray, List.getElem_cons_succ, List.getElem_cons_zero, Act.put, List.setIfInBounds_toArray, List.set_cons_zero, List.set_cons_succ])
                refine wpAnyE_done (by kernel_rfl) ?_ _
                go_wp2_with fail
                go_meet
                exact ⟨by rw [← HGA.out]; by_cases e : cc = taskAt l 1 1 <;> simp [e], hb0.trans (hb2.mono hb0.size)⟩
              · have hk4a : (kk == (4 : Int)) = false := by simp [hk4]
                have hk4b : decide (kk = (4 : Int)) = false := by simp [hk4]
                have hb1 := Below.refl w11.heap.size w11
                refine wpAnyE_take (i := 0) (oi := _) (v := .pointer (some ⟨bA, 0, none⟩)) rfl (by kernel_rfl) (by kernel_rfl) (by kernel_rfl) (by kernel_rfl) (fun _ _ _ h => HQ.out _ _ _ _ _ h) (Or.inl ⟨by rfl, ?_⟩) hb1 ?_
                · intro w' hSw
                  (try simp only [List.getElem_toArray, List.getElem_cons_zero])
                  go_simp
                (try simp only [List.getElem_toArray, List.getElem_cons_zero, Act.put, List.setIfInBounds_toArray, List.set_cons_zero, List.set_cons_succ])
                refine wpAnyE_take (i := 1) (oi := _) (v := .int .i64 kk) rfl (by kernel_rfl) (by kernel_rfl) (by kernel_rfl) (by kernel_rfl) (fun _ _ _ h => HQ.out _ _ _ _ _ h) (Or.inl ⟨by rfl, ?_⟩) hb1 ?_
                · intro w' hSw
                  have s1 := (kA.keep hSw).cell 0
                  (try simp at s1)
                  (try simp only [List.getElem_toArray, List.getElem_cons_succ, List.getElem_cons_zero])
                  go_simp
                (try simp only [List.getElem_toArray, List.getElem_cons_succ, List.getElem_cons_zero, Act.put, List.setIfInBounds_toArray, List.set_cons_zero, List.set_cons_succ])
                refine wpAnyE_take (i := 2) (oi := _) (v := .bool false) rfl (by kernel_rfl) (by kernel_rfl) (by kernel_rfl) (by kernel_rfl) (fun _ _ _ h => HQ.out _ _ _ _ _ h) (Or.inl ⟨by rfl, ?_⟩) hb1 ?_
                · intro w' hSw
                  (try simp only [List.getElem_toArray, List.getElem_cons_succ, List.getElem_cons_zero])
                  go_simp
                (try simp only [List.getElem_toArray, List.getElem_cons_succ, List.getElem_cons_zero, Act.put, List.setIfInBounds_toArray, List.set_cons_zero, List.set_cons_succ])
                refine wpAnyE_take (i := 3) (oi := _) (v := .bool false) rfl (by kernel_rfl) (by kernel_rfl) (by kernel_rfl) (by kernel_rfl) (fun _ _ _ h => HQ.out _ _ _ _ _ h) (Or.inl ⟨by rfl, ?_⟩) hb1 ?_
                · intro w' hSw
                  (try simp only [List.getElem_toArray, List.getElem_cons_succ, List.getElem_cons_zero])
                  go_simp
                (try simp only [List.getElem_toArray, List.getElem_cons_succ, List.getElem_cons_zero, Act.put, List.setIfInBounds_toArray, List.set_cons_zero, List.set_cons_succ])
                refine wpAnyE_take (i := 4) (oi := _) (v := undef) rfl (by kernel_rfl) (by kernel_rfl) (by kernel_rfl) (by kernel_rfl) (fun _ _ _ h => HQ.out _ _ _ _ _ h) (Or.inr ⟨by rfl, rfl⟩) hb1 ?_
                (try simp only [List.getElem_toArray, List.getElem_cons_succ, List.getElem_cons_zero, Act.put, List.setIfInBounds_toArray, List.set_cons_zero, List.set_cons_succ])
                refine wpAnyE_take (i := 5) (oi := _) (v := undef) rfl (by kernel_rfl) (by kernel_rfl) (by kernel_rfl) (by kernel_rfl) (fun _ _ _ h => HQ.out _ _ _ _ _ h) (Or.inr ⟨by rfl, rfl⟩) hb1 ?_
                (try simp only [List.getElem_toArray, List.getElem_cons_succ, List.getElem_cons_zero, Act.put, List.setIfInBounds_toArray, List.set_cons_zero, List.set_cons_succ])
                refine wpAnyE_take (i := 6) (oi := _) (v := undef) rfl (by kernel_rfl) (by kernel_rfl) (by kernel_rfl) (by kernel_rfl) (fun _ _ _ h => HQ.out _ _ _ _ _ h) (Or.inr ⟨by rfl, rfl⟩) hb1 ?_
                (try simp only [List.getElem_toArray, List.getElem_cons_succ, List.getElem_cons_zero, Act.put, List.setIfInBounds_toArray, List.set_cons_zero, List.set_cons_succ])
                refine wpAnyE_take (i := 7) (oi := _) (v := undef) rfl (by kernel_rfl) (by kernel_rfl) (by kernel_rfl) (by kernel_rfl) (fun _ _ _ h => HQ.out _ _ _ _ _ h) (Or.inr ⟨by rfl, rfl⟩) hb1 ?_
                (try simp only [List.getElem_toArray, List.getElem_cons_succ, List.getElem_cons_zero, Act.put, List.setIfInBounds_toArray, List.set_cons_zero, List.set_cons_succ])
                refine wpAnyE_take (i := 8) (oi := _) (v := undef) rfl (by kernel_rfl) (by kernel_rfl) (by kernel_rfl) (by kernel_rfl) (fun _ _ _ h => HQ.out _ _ _ _ _ h) (Or.inr ⟨by rfl, rfl⟩) hb1 ?_
                (try simp only [List.getElem_toArray, List.getElem_cons_succ, List.getElem_cons_zero, Act.put, List.setIfInBounds_toArray, List.set_cons_zero, List.set_cons_succ])
                refine wpAnyE_take (i := 9) (oi := _) (v := .bool false) rfl (by kernel_rfl) (by kernel_rfl) (by kernel_rfl) (by kernel_rfl) (fun _ _ _ h => HQ.out _ _ _ _ _ h) (Or.inl ⟨by rfl, ?_⟩) hb1 ?_
                · intro w' hSw
                  (try simp only [List.getElem_toArray, List.getElem_cons_succ, List.getElem_cons_zero])
                  go_simp
                (try simp only [List.getElem_toArray, List.getElem_cons_succ, List.getElem_cons_zero, Act.put, List.setIfInBounds_toArray, List.set_cons_zero, List.set_cons_succ])
                refine wpAnyE_done (by kernel_rfl) ?_ _
                go_wp2_with fail
                go_meet
                exact ⟨by rw [← HGA.out]; simp [hk4], hb0.trans (hb1.mono hb0.size)⟩
            case rest =>
              obtain ⟨rfl, hwc⟩ := hcut
              replace kX := kX.keep hwc
              replace kA := kA.keep hwc
              have hbc := below_tr HBC.out hwc
              clear HBC kL hwc
              have HBC := Lib.hid hbc
              clear hbc
              have x0 := kX.cell 0
              have lX0 := kX.lt
              simp at x0
              obtain ⟨st, hst⟩ : ∃ st, askStep who at_ ⟨ok, oj, oa, ob⟩ ⟨kk, cc, oo, vv⟩ ((⟨kk, cc, oo, vv⟩ : Acc).had s.m, (⟨kk, cc, oo, vv⟩ : Acc).ok ((⟨kk, cc, oo, vv⟩ : Acc).had s.m)) = st := ⟨_, rfl⟩
              have hsa : addQ l st = gadd := by rw [← hst, ← HGA.out]; rfl
              have hsg : goQ st = false := by rw [← hst]; rfl
              have hsw : st.who = who ∧ st.at_ = at_ := by rw [← hst]; exact ⟨rfl, rfl⟩
              obtain ⟨last2, hlast2⟩ : ∃ z : Nat, (if gadd then 10 * who + at_ + 1 else last) = z := ⟨_, rfl⟩
              obtain ⟨left2, hleft2⟩ : ∃ z : Nat, left + gadd.toNat = z := ⟨_, rfl⟩
              have hn1 : nGo (s.out ++ [st]) = goes := by rw [nGo_snoc, hsg, HCN.out.1]; rfl
              have hn2 : lastQ l (s.out ++ [st]) = last2 := by rw [lastQ_snoc, hsa, hsw.1, hsw.2, HCN.out.2.1, hlast2]
              have hn3 : nAdd l (s.out ++ [st]) = left2 := by rw [nAdd_snoc, hsa, HCN.out.2.2, hleft2]
              have HN3 := Lib.hid (And.intro hn1 (And.intro hn2 (And.intro hn3 (And.intro hlast2 (And.intro hleft2 hst)))))
              clear hn1 hn2 hn3 hsa hsg hsw hlast2 hleft2 hst
              go_upto_if 228 with fail
              go_cut [21, 22] from 229 to 236 (fun v21 v22 wx => v21 = .int .i64 (last2 : Nat) ∧ v22 = .int .i64 (left2 : Nat) ∧ wx = wc)
              case first =>
                have l2 := HN3.out.2.2.2.1
                have f2 := HN3.out.2.2.2.2.1
                cases gadd with
                | false =>
                  have l3 : last = last2 := by simpa using l2
                  have f3 : left = left2 := by simpa using f2
                  have HL3 := Lib.hid (And.intro l3 f3)
                  clear l2 f2 l3 f3
                  go_wp2_with fail
                  go_meet
                  exact ⟨by rw [HL3.out.1], by rw [HL3.out.2], rfl⟩
                | true =>
                  have l3 : 10 * who + at_ + 1 = last2 := by simpa using l2
                  have f3 : left + 1 = left2 := by simpa using f2
                  have HL3 := Lib.hid (And.intro l3 f3)
                  clear l2 f2 l3 f3
                  go_wp2_with fail
                  go_meet
                  exact ⟨by rw [← HL3.out.1]; go_num, by rw [← HL3.out.2]; go_num, rfl⟩
              case rest =>
                obtain ⟨rfl, rfl, hwd⟩ := hcut
                subst hwd
                clear x0
                have hrep := HREP.out.keep HBC.out
                obtain ⟨gm, cm, k5, hom⟩ := hrep.mem
                have hml : s.m.length ≤ 1000 := by rw [HI.out.ml]; exact hm3
                have v0 := kA.cell 0
                have v1 := kA.cell 1
                have v2 := kA.cell 2
                have v3 := kA.cell 3
                have q5 := k5.cell 0
                simp at v0 v1 v2 v3 q5
                clear hrep
                go_wp2_with fail
                clear v0 v1 v2 v3 q5
                have hsl := own_sl hom rfl
                (with_reducible refine (do_ok (some ⟨gm, 0, none⟩) cm s.m ⟨kk, cc, oo, vv⟩ _ hsl (by omega) HHE.out).mono ?_)
                rintro e w11 ⟨g2, cap2, rfl, hown2, hb⟩
                have hbc := below_tr HBC.out hb
                replace kX := kX.keep hb
                replace k5 := k5.keep hb
                replace hown2 : OwnInts w11 0 (.slice (some ⟨g2, 0, none⟩) s.m.length cap2) ((⟨kk, cc, oo, vv⟩ : Acc).make s.m) := own_lower hown2 (Nat.zero_le _)
                have hlm := Acc.make_length ⟨kk, cc, oo, vv⟩ s.m
                have hrs := runP_snoc HRUN.out (turn_ask HX.out HW0.out HANS.out HHE.out)
                rw [HN3.out.2.2.2.2.2] at hrs
                clear hb hsl hom HHE HBC
                generalize (⟨kk, cc, oo, vv⟩ : Acc).make s.m = m' at *
                generalize (⟨kk, cc, oo, vv⟩ : Acc).had s.m = had at *
                generalize (⟨kk, cc, oo, vv⟩ : Acc).ok had = gok at *
                have HT := Lib.hid hrs
                have HLM := Lib.hid hlm
                clear hrs hlm kA
                go_upto_region 50 with fail
                have zN := kX.lt
                have kN := (Bk.made w11 39 #[.slice (some ⟨g2, 0, none⟩) s.m.length cap2]).alloc (.cells #[.int .i64 had, .bool gok] 46)
                have kR := Bk.new (w11.alloc (.cells #[.slice (some ⟨g2, 0, none⟩) s.m.length cap2] 39)) (g := w11.heap.size + 1) (by simp) 46 #[.int .i64 had, .bool gok]
                replace kX := (kX.alloc (.cells #[.slice (some ⟨g2, 0, none⟩) s.m.length cap2] 39)).alloc (.cells #[.int .i64 had, .bool gok] 46)
                replace k5 := (k5.alloc (.cells #[.slice (some ⟨g2, 0, none⟩) s.m.length cap2] 39)).alloc (.cells #[.int .i64 had, .bool gok] 46)
                replace hbc := below_al (below_al hbc (.cells #[.slice (some ⟨g2, 0, none⟩) s.m.length cap2] 39)) (.cells #[.int .i64 had, .bool gok] 46)
                replace hown2 := (hown2.alloc (.cells #[.slice (some ⟨g2, 0, none⟩) s.m.length cap2] 39)).alloc (.cells #[.int .i64 had, .bool gok] 46)
                generalize (w11.alloc (.cells #[.slice (some ⟨g2, 0, none⟩) s.m.length cap2] 39)).alloc (.cells #[.int .i64 had, .bool gok] 46) = w12 at *
                generalize w11.heap.size = bN at *
                have q5 := k5.cell 0
                have f5 := k5.free 0
                have l5 := k5.lt
                have v0 := kN.cell 0
                simp at q5 v0
                go_upto_region 51 with fail
                clear q5 f5 l5 v0 kN
                obtain ⟨_, _, k5c, _⟩ := HREP.out.mem
                have zMX : b14 < bX := by rw [← HBX.out]; exact k5c.lt
                have st2 := (Stp.of_below b14 hbc).trans (Stp.set w12 b14 0 (.slice (some ⟨g2, 0, none⟩) s.m.length cap2))
                replace hown2 := hown2.far (p := ⟨b14, 0, none⟩) (own_ne hown2 k5 (by decide)) (.slice (some ⟨g2, 0, none⟩) s.m.length cap2)
                replace k5 : Bk (w12.setCell ⟨b14, 0, none⟩ (.slice (some ⟨g2, 0, none⟩) s.m.length cap2)) b14 39 #[.slice (some ⟨g2, 0, none⟩) s.m.length cap2] := k5.stored 0 (.slice (some ⟨g2, 0, none⟩) s.m.length cap2)
                replace kX := kX.other (p := ⟨b14, 0, none⟩) (by dsimp only; omega) (.slice (some ⟨g2, 0, none⟩) s.m.length cap2)
                replace kR := kR.other (p := ⟨b14, 0, none⟩) (by dsimp only; omega) (.slice (some ⟨g2, 0, none⟩) s.m.length cap2)
                clear hbc
                generalize w12.setCell ⟨b14, 0, none⟩ (.slice (some ⟨g2, 0, none⟩) s.m.length cap2) = w13 at *
                have hrep := HREP.out.memory st2 HLM.out k5 hown2
                have hbl2 := st2.below (by omega) hbl
                have hres : OwnRes w13 0 (.slice G log.length cp) log := own_keptT HRES.out (keptT_stp k5c st2) (by decide)
                clear st2 k5 hown2 k5c
                have HR := Lib.hid hrep
                have HB := Lib.hid hbl2
                clear hrep hbl2
                refine wp_region_E (S := fun w' => Below w13.drew.heap.size w13.drew w') (E := fun i => i == 8) (by kernel_rfl) ?_
                have hbd := below_drew (Below.refl w13.heap.size w13)
                have HKX13 := Lib.hid kX
                replace kX := kX.drew
                replace kR := kR.drew
                replace hres : OwnRes w13.drew 0 (.slice G log.length cp) log := hres
                have hsz : w13.drew.heap.size = w13.heap.size := rfl
                generalize w13.drew = w14 at *
                obtain ⟨ri, hri⟩ := res_rowT
                refine wpAnyE_take (i := 1) (oi := _) (v := .pointer (some ⟨bX, 1, none⟩)) rfl (by kernel_rfl) (by kernel_rfl) (by kernel_rfl) (by kernel_rfl) (fun _ _ _ h => HQ.out _ _ _ _ _ h) (Or.inl ⟨by rfl, ?_⟩) (Below.refl _ _) ?_
                · intro w' hSw
                  (try simp only [List.getElem_toArray, List.getElem_cons_succ, List.getElem_cons_zero])
                  go_simp
                (try simp only [List.getElem_toArray, List.getElem_cons_succ, List.getElem_cons_zero, Act.put, List.setIfInBounds_toArray, List.set_cons_zero, List.set_cons_succ])
                refine wpAnyE_take (i := 2) (oi := _) (v := .slice G log.length cp) rfl (by kernel_rfl) (by kernel_rfl) (by kernel_rfl) (by kernel_rfl) (fun _ _ _ h => HQ.out _ _ _ _ _ h) (Or.inl ⟨by rfl, ?_⟩) (Below.refl _ _) ?_
                · intro w' hSw
                  have s1 := (kX.keep hSw).cell 1
                  (try simp at s1)
                  (try simp only [List.getElem_toArray, List.getElem_cons_succ, List.getElem_cons_zero])
                  go_simp
                (try simp only [List.getElem_toArray, List.getElem_cons_succ, List.getElem_cons_zero, Act.put, List.setIfInBounds_toArray, List.set_cons_zero, List.set_cons_succ])
                refine wpAnyE_take (i := 4) (oi := _) (v := .agg #[.int .i64 had, .bool gok]) rfl (by kernel_rfl) (by kernel_rfl) (by kernel_rfl) (by kernel_rfl) (fun _ _ _ h => HQ.out _ _ _ _ _ h) (Or.inl ⟨by rfl, ?_⟩) (Below.refl _ _) ?_
                · intro w' hSw
                  have s1 := (kR.keep hSw).cell 0
                  have s2 := (kR.keep hSw).cell 1
                  (try simp at s1 s2)
                  (try simp only [List.getElem_toArray, List.getElem_cons_succ, List.getElem_cons_zero])
                  go_simp
                (try simp only [List.getElem_toArray, List.getElem_cons_succ, List.getElem_cons_zero, Act.put, List.setIfInBounds_toArray, List.set_cons_zero, List.set_cons_succ])
                refine wpAnyE_app2 hri 0 3 5 6 247 250 252 253 (.tmp 249) (.tmp 251) rfl rfl rfl rfl ⟨rfl, rfl, rfl⟩ ⟨rfl, rfl, rfl⟩ ⟨rfl, rfl, rfl⟩ ⟨rfl, rfl, rfl⟩ (by kernel_rfl) (by kernel_rfl) (by kernel_rfl) (by kernel_rfl) (by kernel_rfl) (by kernel_rfl) (by simp) ⟨of_decide_eq_true (by kernel_rfl), of_decide_eq_true (by kernel_rfl), of_decide_eq_true (by kernel_rfl)⟩ w14.heap.size (Nat.le_refl _) (Below.refl _ _) (fun w1 w2 h12 h1 => h1.trans h12) G log.length cp (resCells log) rfl (Src.own hres (Nat.le_refl _)) (resCells_one log) (.agg #[.int .i64 had, .bool gok]) #[.int .i64 had, .bool gok] rfl (fun w => by kernel_rfl) rfl (by simp [Value.oneCell']) (by omega) (by omega) ?_
                intro vA vB vC vD w15 hown hb15 hS15
                (try simp only [Act.put, List.setIfInBounds_toArray, List.set_cons_zero, List.set_cons_succ])
                obtain ⟨GD, cD, rfl⟩ := own_slice hown
                have kX2 := kX.keep hb15
                have hbd2 := below_tr hbd (hb15.mono (by omega))
                refine wpAnyE_take (i := 7) (oi := _) (v := .pointer (some ⟨bX, 1, none⟩)) rfl (by kernel_rfl) (by kernel_rfl) (by kernel_rfl) (by kernel_rfl) (fun _ _ _ h => HQ.out _ _ _ _ _ h) (Or.inl ⟨by rfl, ?_⟩) hS15 ?_
                · intro w' hSw
                  (try simp only [List.getElem_toArray, List.getElem_cons_succ, List.getElem_cons_zero])
                  go_simp
                (try simp only [List.getElem_toArray, List.getElem_cons_succ, List.getElem_cons_zero, Act.put, List.setIfInBounds_toArray, List.set_cons_zero, List.set_cons_succ])
                have x1 := kX2.cell 1
                have xf := kX2.free 1
                have xl := kX2.lt
                simp at x1
                refine wpAnyE_one (i := 8) (o := _) (by kernel_rfl) rfl (fun K hK => ?_)
                (try simp only [List.getElem_toArray, List.getElem_cons_succ, List.getElem_cons_zero])
                go_simp
                clear x1 xf xl
                refine hK.out _ _ (fun h => absurd h (by decide)) ?_
                clear hK K
                refine wpAnyE_done (by kernel_rfl) ?_ _
                have hres2 : OwnRes (w15.setCell ⟨bX, 1, none⟩ (.slice GD (log.length + 1) cD)) 0 (.slice GD (log.length + 1) cD) (log ++ [(had, gok)]) := logOwn (own_keptT hown (keptT_set kX2 1 (.slice GD (log.length + 1) cD)) (by decide))
                have st3 := (Stp.of_below bX hbd2).trans (Stp.set w15 bX 1 (.slice GD (log.length + 1) cD))
                have kX3 : Bk (w15.setCell ⟨bX, 1, none⟩ (.slice GD (log.length + 1) cD)) bX 63 #[.int .i64 (at_ : Nat), .slice GD (log.length + 1) cD] := kX2.stored 1 (.slice GD (log.length + 1) cD)
                have kX13 : Bk w13 bX 63 #[.int .i64 (at_ : Nat), .slice G log.length cp] := HKX13.out
                have hrep := HR.out.aside kX13 st3 (by omega)
                have hbl2 := st3.below (by rw [← HBX.out]; exact hbl.size) HB.out
                clear st3 kX2 hown hb15 hS15 kX kR hres kX13 HKX13 hbd hbd2 HR HB hsz
                generalize w15.setCell ⟨bX, 1, none⟩ (.slice GD (log.length + 1) cD) = w18 at *
                obtain ⟨cs', hse⟩ := hrep.seats
                obtain ⟨G', cp', e1, e2, hres'⟩ := hse.at_ who _ HX.out
                have c1 := (hse.row.cell (who * 2)).trans e1
                have c2 := (hse.row.cell (who * 2 + 1)).trans e2
                have f1 := hse.row.free (who * 2)
                have f2 := hse.row.free (who * 2 + 1)
                have l1 := hse.row.lt
                have y0 := kX3.cell 0
                have y1 := kX3.cell 1
                have l2 := kX3.lt
                simp at y0 y1
                have hlg : (log ++ [(had, gok)]).length = log.length + 1 := by simp
                rw [← hlg] at hres2
                have hrep2 := hrep.seat (who := who) (a := at_) (out := s.out ++ [st]) hwl hres2
                rw [hlg] at hrep2
                have hbl3 := below_set (below_set hbl2 (p := ⟨gs, who * 2, none⟩) (by dsimp only; omega) (.int .i64 (at_ : Nat))) (p := ⟨gs, who * 2 + 1, none⟩) (by dsimp only; omega) (.slice GD (log.length + 1) cD)
                have HR2 := Lib.hid hrep2
                have HB3 := Lib.hid hbl3
                clear hrep hrep2 hbl3 hbl2 e1 e2 hres' hse hlg hres2
                go_wp2_with fail
                refine ⟨⟨k + 1, _, by rw [HLEN.out]; omega, by rw [HN3.out.1], by rw [HN3.out.2.1], by rw [HN3.out.2.2.1], by go_num, HB3.out, ?_, HR2.out⟩, by rw [HLEN.out]; simp [intOf]; omega⟩
                rw [List.take_add_one, HWHO.out]
                exact HT.out
    · obtain rfl : k = m + 180 := by omega
      have hsF : (runP l want s0 (whosP 3 turns)).1 = s := by
        have h1 := HRUN.out
        rw [List.take_of_length_le (by rw [HLEN.out]; exact Nat.le_refl _)] at h1
        rw [h1]
      have HREP := Lib.hid hrep
      have HSF := Lib.hid hsF
      have i0 : decide (((m + 180 : Nat) : Int) < m + 180) = false := by simp
      clear hrep hsF
      go_wp2_with fail
      have hrep := HREP.out
      rw [← HSF.out] at hrep
      have hg1 := HCN.out.1
      have hg2 := HCN.out.2.2
      rw [← HSF.out] at hg1 hg2
      rw [← hg1, ← hg2]
      exact HK.out _ _ _ _ _ _ _ _ _ _ _ _ _ _ _ _ _ _ _ _ _ _ _ _ _ _ _ _ _ _ _ _ _ _ _ _ _ _ _ _ _ _ _ _ _ _ _ _ _ _ _ _ _ _ _ _ _ _ _ _ _ _ _ _ _ _ _ _ _ _ _ _ _ _ _ _ _ _ _ _ _ _ _ _ _ _ _ _ _ _ _ _ _ _ _ _ _ _ _ _ _ _ _ _ _ _ _ _ _ _ _ _ _ _ _ _ _ _ _ _ _ _ _ _ _ _ _ _ _ _ _ _ _ _ _ _ _ _ _ _ _ _ _ _ _ _ _ _ wr hbl hrep
end Go.Proofs.Ytcjaomiihajjbaa
