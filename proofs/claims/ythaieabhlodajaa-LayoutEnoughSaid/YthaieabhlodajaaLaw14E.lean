/- The walk of LayoutEnough. -/
import Derived.Test.YthaieabhlodajaaLayI
import Derived.Test.YthaieabhlodajaaRowK
import Derived.Test.YthaieabhlodajaaOpenE
import Derived.Test.YthaieabhlodajaaLaw14C
import Derived.Deep.DeepCutAuto
namespace Go.Proofs.Ythaieabhlodajaa
open Go.RowKit
attribute [local go_sem ↓] Go.wp_at_zero Go.wp_at_succ

/-- What For tells. -/
def ForR (c : Cd) (el : El) (l : List Us) (s : Int) (L : Cf) (er : Int) : Prop :=
  (er = 0 ∧ (forC c el l s).may ∧ forN c l s ≤ 1000 ∧ L = { forC c el l s with nodes := forN c l s }) ∨ (er = 1 ∧ L = zeroCf) ∨ (er = 8 ∧ L = zeroCf)
def ForAny (c : Cd) (el : El) (l : List Us) (s : Int) (w : World) (e : Ending) (w' : World) : Prop := ∃ L er, e = .returned (.tuple #[cfV L, .int .i64 er]) ∧ ForR c el l s L er ∧ Below w.heap.size w w'
theorem forr_any (c : Cd) (el : El) (U : Option Addr) (uc : Nat) (l : List Us) (s : Int) (w : World) (hl : SlUse w w.heap.size U l) (hm : l.length ≤ 1000) (hs1 : s ≤ 1000) (hcn : c.cn ≤ 1000000) :
    Calls Try.prog 12 #[.agg (cdC c), .agg (elC el U l.length uc), .int .i64 s] w (ForAny c el l s w) := by
  by_cases h : 0 ≤ s
  · exact for_any c el U uc l s w hl (by omega) h hs1 hcn _ (fun _ w' hb => ⟨_, _, rfl, .inr (.inl ⟨rfl, rfl⟩), hb⟩) (fun _ _ w' hb => ⟨_, _, rfl, .inr (.inr ⟨rfl, rfl⟩), hb⟩) (fun h1 h2 w' hb => ⟨_, _, rfl, .inl ⟨rfl, h1, by omega, rfl⟩, hb⟩)
  · exact (for_neg c el U uc l s w hl (by omega) (by omega)).mono fun e w' ⟨he, hb⟩ => ⟨_, _, he, .inr (.inl ⟨rfl, rfl⟩), hb⟩
theorem putsN_snoc (l : List Us) (u : Us) : putsN (l ++ [u]) = putsN l + (if u.isPut = true then 1 else 0) := by
  unfold putsN
  rw [List.countP_append]
  cases h : u.isPut <;> simp [h]
theorem othersN_snoc (l : List Us) (u : Us) : othersN (l ++ [u]) = othersN l + (if u.isOther = true then 1 else 0) := by
  unfold othersN
  rw [List.countP_append]
  cases h : u.isOther <;> simp [h]
theorem bucketsN_in (m p : Int) : 1 ≤ bucketsN m p ∧ bucketsN m p ≤ 64 := by
  unfold bucketsN
  repeat' split
  all_goals omega
theorem bucketsN_next (m p q : Int) (h0 : p ≤ q) (h1 : q ≤ p + 1) : bucketsN m p ≤ bucketsN m q ∧ bucketsN m q ≤ 2 * bucketsN m p := by
  by_cases hm : m = 0
  · have e1 : ∀ x, bucketsN m x = 1 := fun x => by unfold bucketsN; rw [if_pos (.inl hm)]
    rw [e1, e1]
    omega
  · unfold bucketsN
    repeat' split
    all_goals omega
theorem enough_can (c : Cd) (el : El) (l : List Us) (s : Int) (hm : (forC c el l s).may) (hn : forN c l s ≤ 1000) : ({ forC c el l s with nodes := forN c l s } : Cf).can := by
  have r0 : 1 ≤ s ∧ s ≤ 8 := hm.1 0 (by omega)
  have r5 : 0 ≤ c.maps ∧ c.maps ≤ 8 := hm.1 5 (by omega)
  have r7 : 0 ≤ c.chans ∧ c.chans ≤ 8 := hm.1 7 (by omega)
  have hb := bucketsN_in c.maps (putsN l)
  have hp : 0 ≤ putsN l := by unfold putsN; omega
  have ho : 0 ≤ othersN l := by unfold othersN; omega
  have hmm : 1 * c.maps ≤ bucketsN c.maps (putsN l) * c.maps := Int.mul_le_mul_of_nonneg_right hb.1 r5.1
  refine ⟨⟨fun j hj => ?_, hm.2⟩, ?_, hn⟩
  · exact hm.1 j hj
  · show c.maps + c.chans ≤ forN c l s
    unfold forN
    omega
theorem enough_more (c : Cd) (l : List Us) (u : Us) (s : Int) (h5 : 0 ≤ c.maps) :
    forN c l s ≤ forN c (l ++ [u]) s ∧ bucketsN c.maps (putsN l) ≤ bucketsN c.maps (putsN (l ++ [u])) ∧ forN c (l ++ [u]) s ≤ forN c l s + 1 + bucketsN c.maps (putsN l) * c.maps := by
  have hx : ¬ (u.isPut = true ∧ u.isOther = true) := by
    rintro ⟨h1, h2⟩
    simp [Us.isPut] at h1
    simp [Us.isOther, h1.1] at h2
  have hp := putsN_snoc l u
  have ho := othersN_snoc l u
  have hb : bucketsN c.maps (putsN l) ≤ bucketsN c.maps (putsN (l ++ [u])) ∧ bucketsN c.maps (putsN (l ++ [u])) ≤ 2 * bucketsN c.maps (putsN l) := by
    rw [hp]
    split
    · exact bucketsN_next c.maps _ _ (by omega) (by omega)
    · exact bucketsN_next c.maps _ _ (by omega) (by omega)
  have m1 := Int.mul_le_mul_of_nonneg_right hb.1 h5
  have m2 := Int.mul_le_mul_of_nonneg_right hb.2 h5
  rw [Int.mul_assoc] at m2
  have hsum : (if u.isPut = true then (1 : Int) else 0) + (if u.isOther = true then 1 else 0) ≤ 1 ∧ 0 ≤ (if u.isPut = true then (1 : Int) else 0) + (if u.isOther = true then 1 else 0) := by
    cases e1 : u.isPut <;> cases e2 : u.isOther <;> simp [e1, e2] at hx ⊢
  refine ⟨?_, hb.1, ?_⟩
  · unfold forN
    rw [ho]
    have := hp
    omega
  · unfold forN
    rw [ho]
    have := hp
    omega
theorem in_sub0 (c : Cd) (e : El) (U : Option Addr) (n uc : Nat) (u : Us) (s : Int) (j : Nat) (v : Value) (h : (cdC c)[j]? = some v) : (inC c e U n uc u s)[0 + j]? = some v := by
  have hj : j < 6 := (Array.getElem?_eq_some_iff.1 h).1
  have hc : j = 0 ∨ j = 1 ∨ j = 2 ∨ j = 3 ∨ j = 4 ∨ j = 5 := by omega
  rcases hc with rfl | rfl | rfl | rfl | rfl | rfl <;> exact h
theorem in_sub1 (c : Cd) (e : El) (U : Option Addr) (n uc : Nat) (u : Us) (s : Int) (j : Nat) (v : Value) (h : (elC e U n uc)[j]? = some v) : (inC c e U n uc u s)[6 + j]? = some v := by
  have hj : j < 11 := (Array.getElem?_eq_some_iff.1 h).1
  have hc : j = 0 ∨ j = 1 ∨ j = 2 ∨ j = 3 ∨ j = 4 ∨ j = 5 ∨ j = 6 ∨ j = 7 ∨ j = 8 ∨ j = 9 ∨ j = 10 := by omega
  rcases hc with rfl | rfl | rfl | rfl | rfl | rfl | rfl | rfl | rfl | rfl | rfl <;> exact h
theorem in_sub2 (c : Cd) (e : El) (U : Option Addr) (n uc : Nat) (u : Us) (s : Int) (j : Nat) (v : Value) (h : (usC u)[j]? = some v) : (inC c e U n uc u s)[17 + j]? = some v := by
  have hj : j < 10 := (Array.getElem?_eq_some_iff.1 h).1
  have hc : j = 0 ∨ j = 1 ∨ j = 2 ∨ j = 3 ∨ j = 4 ∨ j = 5 ∨ j = 6 ∨ j = 7 ∨ j = 8 ∨ j = 9 := by omega
  rcases hc with rfl | rfl | rfl | rfl | rfl | rfl | rfl | rfl | rfl | rfl <;> exact h

def ECut (w : World) (c : Cd) (el : El) (U : Option Addr) (uc : Nat) (l : List Us) (u : Us) (A : Cf) (g3 g4 g8 g12 : Nat) (wx : World) : Prop :=
  ∃ R cap, Bk wx g3 35 (cdC c) ∧ Bk wx g4 41 (elC el U l.length uc) ∧ Bk wx g8 23 (cfC A) ∧ Bk wx g12 41 (elC el R (l ++ [u]).length cap) ∧ SlUse wx wx.heap.size R (l ++ [u]) ∧ Below w.heap.size w wx
theorem ecut_of {w wx : World} {c : Cd} {el : El} {U : Option Addr} {uc cap : Nat} {l : List Us} {u : Us} {A : Cf} {g3 g4 g8 g12 base : Nat} {R : Option Addr} {cs : Array Value}
    (ho : wx.ownsRow base 45 10 (.slice R (l.length + 1) cap) (l.length + 1) (flatU l ++ (usC u).toList)) (k3 : Bk wx g3 35 (cdC c)) (k4 : Bk wx g4 41 (elC el U l.length uc)) (k8 : Bk wx g8 23 (cfC A))
    (k12 : Bk (wx.setCell ⟨g12, 6, none⟩ (.slice R (l.length + 1) cap)) g12 41 cs) (hbl : Below w.heap.size w wx) (h1 : g3 ≠ g12) (h2 : g4 ≠ g12) (h3 : g8 ≠ g12) (h4 : w.heap.size ≤ g12) (h5 : g12 < base) (hcs : cs = elC el R (l.length + 1) cap := by rfl) :
    ECut w c el U uc l u A g3 g4 g8 g12 (wx.setCell ⟨g12, 6, none⟩ (.slice R (l.length + 1) cap)) := by
  subst hcs
  refine ⟨R, cap, k3.other h1 _, k4.other h2 _, k8.other h3 _, by simpa using k12, ?_, below_set hbl h4 _⟩
  have := ownsRow_setCell_below ho (a := ⟨g12, 6, none⟩) h5 (.slice R (l.length + 1) cap)
  rw [← flatU_snoc] at this
  exact slUse_own (by simpa using this)
set_option maxRecDepth 100000 in
set_option maxHeartbeats 16000000 in
theorem enough_any (c : Cd) (el : El) (U : Option Addr) (uc : Nat) (l : List Us) (u : Us) (s : Int) (w : World) (hl : SlUse w w.heap.size U l) (hU : U = none → l.length = 0 ∧ uc = 0) (_s0 : -9223372036854775808 ≤ s) (_s1 : s ≤ 9223372036854775807) :
    Calls Try.prog 4 #[.agg (inC c el U l.length uc u s)] w (BoolBelow true w) := by
  have le : ∀ w, (Op.equalIn 10000 23 (.agg (cfC zeroCf)) (.agg (cfC zeroCf))).run Try.prog w = .ok true w := fun w => by
    have h := cf_eq 9998 zeroCf zeroCf w
    rw [(cfB_iff _ _).2 rfl] at h
    exact h
  have HU := Lib.hid (And.intro hl hU)
  have k1 := Bk.made w 47 (inC c el U l.length uc u s)
  have hbl := below_al (Below.refl w.heap.size w) (.cells (inC c el U l.length uc u s) 47)
  clear hl hU
  go_enter Try.func4, Try.ntmps4
  go_upto_region 1 with fail
  generalize w.alloc (.cells (inC c el U l.length uc u s) 47) = wa at *
  have k3 := Bk.made wa 35 (cdC c)
  have k1b := k1.alloc (.cells (cdC c) 35)
  replace hbl := below_al hbl (.cells (cdC c) 35)
  go_upto_region 2 with (first
    | (refine wpList_load_sub rfl 35 _ rfl w.heap.size 0 rfl (cdC c) _ (fun j v h => (k1.cell (0 + j)).trans (in_sub0 _ _ _ _ _ _ _ j v h)) Try.underlying35 rfl (by kernel_rfl) ?_)
    | (refine wpList_store_new rfl 35 (.tmp 3) (.tmp 18) rfl rfl wa.heap.size _ _ (cdC c) rfl rfl rfl rfl (by kernel_rfl) rfl (by simp [Value.oneCell']) ?_; (generalize wa.alloc (.cells (cdC c) 35) = wb at *)))
  replace k1 := k1b
  clear k1b
  generalize wa.heap.size = g3 at *
  have k4 := Bk.made wb 41 (elC el U l.length uc)
  have k1b := k1.alloc (.cells (elC el U l.length uc) 41)
  replace k3 := k3.alloc (.cells (elC el U l.length uc) 41)
  replace hbl := below_al hbl (.cells (elC el U l.length uc) 41)
  go_upto_region 3 with (first
    | (refine wpList_load_sub rfl 41 _ rfl w.heap.size 6 rfl (elC el U l.length uc) _ (fun j v h => (k1.cell (6 + j)).trans (in_sub1 _ _ _ _ _ _ _ j v h)) Try.underlying41 rfl (by kernel_rfl) ?_)
    | (refine wpList_store_new rfl 41 (.tmp 4) (.tmp 20) rfl rfl wb.heap.size _ _ (elC el U l.length uc) rfl rfl rfl rfl (by kernel_rfl) rfl (by simp [Value.oneCell']) ?_; (generalize wb.alloc (.cells (elC el U l.length uc) 41) = wc at *)))
  replace k1 := k1b
  clear k1b
  generalize wb.heap.size = g4 at *
  have k5 := Bk.made wc 45 (usC u)
  have k1b := k1.alloc (.cells (usC u) 45)
  replace k3 := k3.alloc (.cells (usC u) 45)
  replace k4 := k4.alloc (.cells (usC u) 45)
  replace hbl := below_al hbl (.cells (usC u) 45)
  go_upto_region 4 with (first
    | (refine wpList_load_sub rfl 45 _ rfl w.heap.size 17 rfl (usC u) _ (fun j v h => (k1.cell (17 + j)).trans (in_sub2 _ _ _ _ _ _ _ j v h)) Try.underlying45 rfl (by kernel_rfl) ?_)
    | (refine wpList_store_new rfl 45 (.tmp 5) (.tmp 22) rfl rfl wc.heap.size _ _ (usC u) rfl rfl rfl rfl (by kernel_rfl) rfl (by simp [Value.oneCell']) ?_; (generalize wc.alloc (.cells (usC u) 45) = wd at *)))
  replace k1 := k1b
  clear k1b
  generalize wc.heap.size = g5 at *
  have q27 := k1.cell 27
  simp at q27
  go_wp2_with fail
  (with_reducible refine (shown_any _).mono ?_)
  rintro e w1 ⟨rfl, hb⟩
  replace k3 := k3.keep hb
  replace k4 := k4.keep hb
  replace k5 := k5.keep hb
  replace hbl := below_tr hbl hb
  clear hb k1 q27
  have p1 := k3.cell 1
  have p6 := k4.cell 6
  simp at p1 p6
  by_cases h40 : (40 : Int) < c.cn
  · have g1 : decide ((40 : Int) < c.cn) = true := by simpa using h40
    go_wp2
    go_ret
    exact ⟨rfl, hbl⟩
  have g1 : decide ((40 : Int) < c.cn) = false := by simpa using h40
  by_cases h100 : (100 : Int) < l.length
  · have g2 : decide ((100 : Int) < l.length) = true := by simpa using h100
    go_wp2
    go_ret
    exact ⟨rfl, hbl⟩
  have g2 : decide ((100 : Int) < l.length) = false := by simpa using h100
  by_cases hs : (100 : Int) < s
  · have g3 : decide ((100 : Int) < s) = true := by simpa using hs
    go_wp2
    go_ret
    exact ⟨rfl, hbl⟩
  have g3 : decide ((100 : Int) < s) = false := by simpa using hs
  go_upto_region 8 with fail
  clear p1 p6 g1 g2 g3
  have hl1 := HU.out.1.below hbl
  have hl2 := hl1.more hbl.size
  go_wp2_with (first
    | (refine wpList_load_row rfl 35 (.tmp 3) rfl g3 rfl 35 (cdC c) (0, 0) _ k3 Try.underlying35 rfl (by kernel_rfl) ?_)
    | (refine wpList_load_row rfl 41 (.tmp 4) rfl g4 rfl 41 (elC el U l.length uc) (0, 0) _ k4 Try.underlying41 rfl (by kernel_rfl) ?_))
  (with_reducible refine (forr_any c el U uc l s _ hl2 (by omega) (by omega) (by omega)).mono ?_)
  rintro e w2 ⟨A, er, rfl, hA, hb⟩
  replace k3 := k3.keep hb
  replace k4 := k4.keep hb
  replace k5 := k5.keep hb
  replace hbl := below_tr hbl hb
  clear hb hl1 hl2
  have k8 := Bk.made w2 23 (cfC A)
  replace k3 := k3.alloc (.cells (cfC A) 23)
  replace k4 := k4.alloc (.cells (cfC A) 23)
  replace k5 := k5.alloc (.cells (cfC A) 23)
  replace hbl := below_al hbl (.cells (cfC A) 23)
  go_upto_region 9 with (refine wpList_store_new rfl 23 (.tmp 8) (.tmp 46) rfl rfl w2.heap.size _ _ (cfC A) rfl rfl rfl rfl (by kernel_rfl) rfl (by simp [Value.oneCell']) ?_; (generalize w2.alloc (.cells (cfC A) 23) = w3 at *))
  generalize w2.heap.size = g8 at *
  rcases hA with ⟨rfl, hmay, hnod, hA⟩ | ⟨rfl, rfl⟩ | ⟨rfl, rfl⟩
  rotate_left
  · go_wp2_with (refine wpList_load_rowG (by rfl) 23 (.tmp 8) rfl g8 rfl 23 (cfC zeroCf) (0, 0) _ k8 Try.underlying23 rfl (by kernel_rfl) ?_)
    go_ret
    exact ⟨rfl, hbl⟩
  · go_wp2_with (refine wpList_load_rowG (by rfl) 23 (.tmp 8) rfl g8 rfl 23 (cfC zeroCf) (0, 0) _ k8 Try.underlying23 rfl (by kernel_rfl) ?_)
    go_ret
    exact ⟨rfl, hbl⟩
  clear le
  have hcan : A.can := by rw [hA]; exact enough_can c el l s hmay hnod
  have e1 : A.nodes = forN c l s := by rw [hA]
  have e2 : A.buckets = bucketsN c.maps (putsN l) := by rw [hA]; rfl
  have e3 : A.tasks = max el.tasks 1 := by rw [hA]; rfl
  have e4 : A.maps = c.maps := by rw [hA]; rfl
  have e5 : A.slots = s / 2 + s % 2 := by rw [hA]; rfl
  have e6 : A.seats = s := by rw [hA]; rfl
  have r0 : 1 ≤ s ∧ s ≤ 8 := hmay.1 0 (by omega)
  have r5 : 0 ≤ c.maps ∧ c.maps ≤ 8 := hmay.1 5 (by omega)
  have HA := Lib.hid (And.intro hcan (And.intro e1 (And.intro e2 (And.intro e3 (And.intro e4 (And.intro e5 e6))))))
  have hlen : l.length ≤ 100 := by omega
  have hcn : c.cn ≤ 40 := by omega
  clear hcan e1 e2 e3 e4 e5 e6 hA hmay hnod h40 h100 hs _s0 _s1
  go_wp2_with (refine wpList_load_row rfl 23 (.tmp 8) rfl g8 rfl 23 (cfC A) (0, 0) _ k8 Try.underlying23 rfl (by kernel_rfl) ?_)
  (with_reducible refine (rof_ok A _ HA.out.1).mono ?_)
  rintro e w4 ⟨rfl, hb⟩
  replace k3 := k3.keep hb
  replace k4 := k4.keep hb
  replace k5 := k5.keep hb
  replace k8 := k8.keep hb
  replace hbl := below_tr hbl hb
  clear hb
  generalize lyOf A = L at *
  replace k3 := k3.alloc (.cells (lyC L) 26)
  replace k4 := k4.alloc (.cells (lyC L) 26)
  replace k5 := k5.alloc (.cells (lyC L) 26)
  replace k8 := k8.alloc (.cells (lyC L) 26)
  replace hbl := below_al hbl (.cells (lyC L) 26)
  go_upto_region 12 with (refine wpList_store_new rfl 26 (.tmp 10) (.tmp 67) rfl rfl w4.heap.size _ _ (lyC L) rfl rfl rfl rfl (by kernel_rfl) rfl (by simp [Value.oneCell']) ?_; (generalize w4.alloc (.cells (lyC L) 26) = w5 at *))
  generalize w4.heap.size = g10 at *
  have hg12 := hbl.size
  have n3 := k3.lt
  have n4 := k4.lt
  have n5 := k5.lt
  have n8 := k8.lt
  have k12 := Bk.made w5 41 (elC el U l.length uc)
  have k4b := k4.alloc (.cells (elC el U l.length uc) 41)
  replace k3 := k3.alloc (.cells (elC el U l.length uc) 41)
  replace k5 := k5.alloc (.cells (elC el U l.length uc) 41)
  replace k8 := k8.alloc (.cells (elC el U l.length uc) 41)
  replace hbl := below_al hbl (.cells (elC el U l.length uc) 41)
  go_upto_region 13 with (first
    | (refine wpList_load_row rfl 41 (.tmp 4) rfl g4 rfl 41 (elC el U l.length uc) (0, 0) _ k4 Try.underlying41 rfl (by kernel_rfl) ?_)
    | (refine wpList_store_new rfl 41 (.tmp 12) (.tmp 69) rfl rfl w5.heap.size _ _ (elC el U l.length uc) rfl rfl rfl rfl (by kernel_rfl) rfl (by simp [Value.oneCell']) ?_; (generalize w5.alloc (.cells (elC el U l.length uc) 41) = w6 at *)))
  replace k4 := k4b
  clear k4b
  generalize w5.heap.size = g12 at *
  have hbs := hbl.size
  go_cut [70] (fun _ wx => ECut w c el U uc l u A g3 g4 g8 g12 wx)
  case first =>
    have hS : Bk w6.drew g4 41 (elC el U l.length uc) ∧ Bk w6.drew g5 45 (usC u) := ⟨k4, k5⟩
    refine wp_region_held_drew (S := fun w' => Bk w' g4 41 (elC el U l.length uc) ∧ Bk w' g5 45 (usC u)) (by kernel_rfl) hS (fun hHeld => ?_)
    clear hHeld
    have l3 := k3.lt
    have l4 := k4.lt
    have l5 := k5.lt
    have l8 := k8.lt
    have l12 := k12.lt
    have hbs' : w.heap.size ≤ w6.heap.size := hbl.size
    replace k3 := k3.drew
    replace k4 := k4.drew
    replace k5 := k5.drew
    replace k8 := k8.drew
    replace k12 := k12.drew
    replace hbl := hbl.drew
    have hsz : w6.heap.size ≤ w6.drew.heap.size := Nat.le_refl _
    generalize w6.drew = w7 at *
    refine wpAnyH_take (i := 1) (oi := _) (v := .pointer (some ⟨g4, 6, none⟩)) rfl (by kernel_rfl) (by kernel_rfl) (by kernel_rfl) (fun _ _ _ h => h) (Or.inl ⟨by rfl, ?_⟩) hS ?_
    · intro w' hSw
      (try simp only [List.getElem_toArray, List.getElem_cons_succ, List.getElem_cons_zero])
      go_simp
    (try simp only [List.getElem_toArray, List.getElem_cons_succ, List.getElem_cons_zero, Act.put, List.setIfInBounds_toArray, List.set_cons_zero, List.set_cons_succ])
    refine wpAnyH_take (i := 2) (oi := _) (v := .slice U l.length uc) rfl (by kernel_rfl) (by kernel_rfl) (by kernel_rfl) (fun _ _ _ h => h) (Or.inl ⟨by rfl, ?_⟩) hS ?_
    · intro w' hSw
      (try simp only [List.getElem_toArray, List.getElem_cons_succ, List.getElem_cons_zero])
      have q6 := hSw.1.cell 6
      simp at q6
      go_simp
    (try simp only [List.getElem_toArray, List.getElem_cons_succ, List.getElem_cons_zero, Act.put, List.setIfInBounds_toArray, List.set_cons_zero, List.set_cons_succ])
    refine wpAnyH_take (i := 4) (oi := _) (v := .agg (usC u)) rfl (by kernel_rfl) (by kernel_rfl) (by kernel_rfl) (fun _ _ _ h => h) (Or.inl ⟨by rfl, ?_⟩) hS ?_
    · intro w' hSw
      (try simp only [List.getElem_toArray, List.getElem_cons_succ, List.getElem_cons_zero])
      simp only [execOp, Instr.loadAt, Instr.sureAddr, Sem.run_bind, Sem.run_pure]
      rw [show (Act.eval _ (Operand.tmp 5)) = Value.pointer (some ⟨g5, 0, none⟩) from rfl]
      simp only [Sem.run_pure, Result.andThen_ok, run_loadVar_row w' g5 45 45 (usC u) (0, 0) _ hSw.2 Try.underlying45 rfl (by kernel_rfl)]
    (try simp only [List.getElem_toArray, List.getElem_cons_succ, List.getElem_cons_zero, Act.put, List.setIfInBounds_toArray, List.set_cons_zero, List.set_cons_succ])
    clear hS
    refine wpAnyH_ready (rs := [0, 5]) (by kernel_rfl) (by simp) ?_
    refine AllReadyH.cons (o := _) rfl (fun K hK => ?_) (AllReadyH.cons (o := _) rfl (fun K hK => ?_) AllReadyH.nil)
    · rw [if_pos (by rfl)]
      refine wp_build0 rfl ?_
      have ownx1 := own_build0 w7 w6.heap.size hsz
      replace k3 := k3.alloc (.cells #[] 45)
      replace k4 := k4.alloc (.cells #[] 45)
      replace k5 := k5.alloc (.cells #[] 45)
      replace k8 := k8.alloc (.cells #[] 45)
      replace k12 := k12.alloc (.cells #[] 45)
      replace hbl := below_al hbl (.cells #[] 45)
      have hszx1 : w6.heap.size ≤ (w7.alloc (.cells #[] 45)).heap.size := by simp; omega
      refine hK.out _ _ ⟨k4, k5⟩ (fun hS' => ?_)
      clear hS' hK K
      (try simp only [List.getElem_toArray, List.getElem_cons_zero, Act.put, List.setIfInBounds_toArray, List.set_cons_zero, List.set_cons_succ])
      generalize w7.alloc (.cells #[] 45) = x1 at *
      have own := ownx1
      have hge0 := hsz
      replace hsz := hszx1
      have hv0 : (Value.slice (some ⟨w7.heap.size, 0, none⟩) 0 0).ownBlock = some w7.heap.size := rfl
      generalize hg70 : w7.heap.size = g70 at *
      clear ownx1 hszx1
      refine wpAnyH_ready (rs := [3, 5]) (by kernel_rfl) (by simp) ?_
      refine AllReadyH.cons (o := _) rfl (fun K hK => ?_) (AllReadyH.cons (o := _) rfl (fun K hK => ?_) AllReadyH.nil)
      · rw [if_pos (by rfl)]
        refine wp_append_uses (.tmp 70) (.tmp 72) rfl w6.heap.size (.slice (some ⟨g70, 0, none⟩) 0 0) rfl own U uc l rfl HU.out.2 _ (HU.out.1.below hbl) (by omega) hsz ?_
        intro v73 x2 ownx2 grx2
        replace k3 := k3.grownX grx2 (by intro e; rw [hv0] at e; injection e; omega)
        replace k4 := k4.grownX grx2 (by intro e; rw [hv0] at e; injection e; omega)
        replace k5 := k5.grownX grx2 (by intro e; rw [hv0] at e; injection e; omega)
        replace k8 := k8.grownX grx2 (by intro e; rw [hv0] at e; injection e; omega)
        replace k12 := k12.grownX grx2 (by intro e; rw [hv0] at e; injection e; omega)
        replace hbl := hbl.grown grx2 (Nat.le_trans hbs' hsz) (fun j hj => by rw [hv0] at hj; injection hj; omega)
        replace hsz := Nat.le_trans hsz grx2.size
        refine hK.out _ _ ⟨k4, k5⟩ (fun hS' => ?_)
        clear hS' hK K own
        have own := ownx2
        clear ownx2
        (try simp only [List.getElem_toArray, List.getElem_cons_succ, List.getElem_cons_zero, Act.put, List.setIfInBounds_toArray, List.set_cons_zero, List.set_cons_succ])
        refine wpAnyH_ready (rs := [5]) (by kernel_rfl) (by simp) ?_
        refine AllReadyH.cons (o := _) rfl (fun K hK => ?_) AllReadyH.nil
        (try simp only [List.getElem_toArray, List.getElem_cons_succ, List.getElem_cons_zero])
        go_simp
        have kb := Bk.made x2 45 (usC u)
        replace k3 := k3.alloc (.cells (usC u) 45)
        replace k4 := k4.alloc (.cells (usC u) 45)
        replace k5 := k5.alloc (.cells (usC u) 45)
        replace k8 := k8.alloc (.cells (usC u) 45)
        replace k12 := k12.alloc (.cells (usC u) 45)
        replace hbl := below_al hbl (.cells (usC u) 45)
        (try have lt70 := (World.ownsRow.lt own g70 hv0).2)
        replace own := World.ownsRow.alloc own (.cells (usC u) 45)
        have hszx3 : w6.heap.size ≤ (x2.alloc (.cells (usC u) 45)).heap.size := by simp; omega
        refine hK.out _ _ ⟨k4, k5⟩ (fun hS' => ?_)
        clear hS' hK K
        (try simp only [List.getElem_toArray, List.getElem_cons_succ, List.getElem_cons_zero, Act.put, List.setIfInBounds_toArray, List.set_cons_zero, List.set_cons_succ])
        generalize x2.alloc (.cells (usC u) 45) = x3 at *
        replace hsz := hszx3
        generalize x2.heap.size = g75 at *
        clear hszx3
        refine wpAnyH_ready (rs := [6]) (by kernel_rfl) (by simp) ?_
        refine AllReadyH.cons (o := _) rfl (fun K hK => ?_) AllReadyH.nil
        rw [if_pos (by rfl)]
        refine wp_append_use1 (.tmp 73) (.tmp 75) rfl w6.heap.size v73 l.length (flatU l) rfl own (flatU_len l) u g75 1 rfl kb (by omega) hsz ?_
        intro v76 x4 ownx4 grx4
        have hob := fun r hr => (World.ownsRow.lt own r hr).1
        replace k3 := k3.grownX grx4 (by intro e; have := hob _ e.symm; omega)
        replace k4 := k4.grownX grx4 (by intro e; have := hob _ e.symm; omega)
        replace k5 := k5.grownX grx4 (by intro e; have := hob _ e.symm; omega)
        replace k8 := k8.grownX grx4 (by intro e; have := hob _ e.symm; omega)
        replace k12 := k12.grownX grx4 (by intro e; have := hob _ e.symm; omega)
        replace hbl := hbl.grown grx4 (Nat.le_trans hbs' hsz) (fun j hj => by have := hob _ hj; omega)
        refine hK.out _ _ ⟨k4, k5⟩ (fun hS' => ?_)
        clear hS' hK K own hob
        (try simp only [List.getElem_toArray, List.getElem_cons_succ, List.getElem_cons_zero, Act.put, List.setIfInBounds_toArray, List.set_cons_zero, List.set_cons_succ])
        refine wpAnyH_take (i := 7) (oi := _) (v := .pointer (some ⟨g12, 6, none⟩)) rfl (by kernel_rfl) (by kernel_rfl) (by kernel_rfl) (fun _ _ _ h => h) (Or.inl ⟨by rfl, ?_⟩) ⟨k4, k5⟩ ?_
        · intro w' hSw
          (try simp only [List.getElem_toArray, List.getElem_cons_succ, List.getElem_cons_zero])
          go_simp
        (try simp only [List.getElem_toArray, List.getElem_cons_succ, List.getElem_cons_zero, Act.put, List.setIfInBounds_toArray, List.set_cons_zero, List.set_cons_succ])
        obtain ⟨G, cap, rfl⟩ := own_slice_e ownx4
        have q12 := k12.cell 6
        have f12 := k12.free 6
        simp at q12
        have l12 := k12.lt
        refine wpAnyH_ready (rs := [8]) (by kernel_rfl) (by simp) ?_
        refine AllReadyH.cons (o := _) rfl (fun K hK => ?_) AllReadyH.nil
        (try simp only [List.getElem_toArray, List.getElem_cons_succ, List.getElem_cons_zero])
        go_simp
        have k12' := k12.stored 6 (.slice G (l.length + 1) cap)
        refine hK.out _ _ ⟨k4.other (by dsimp only; omega) _, k5.other (by dsimp only; omega) _⟩ (fun hS' => ?_)
        clear hS' hK K
        (try simp only [List.getElem_toArray, List.getElem_cons_succ, List.getElem_cons_zero, Act.put, List.setIfInBounds_toArray, List.set_cons_zero, List.set_cons_succ])
        refine wpAnyH_done (by kernel_rfl) ?_ _
        go_wp2_with fail
        go_meet
        exact ecut_of ownx4 k3 k4 k8 k12' hbl (by omega) (by omega) (by omega) (by omega) (by omega)
      · (try simp only [List.getElem_toArray, List.getElem_cons_succ, List.getElem_cons_zero])
        go_simp
        have kb := Bk.made x1 45 (usC u)
        replace k3 := k3.alloc (.cells (usC u) 45)
        replace k4 := k4.alloc (.cells (usC u) 45)
        replace k5 := k5.alloc (.cells (usC u) 45)
        replace k8 := k8.alloc (.cells (usC u) 45)
        replace k12 := k12.alloc (.cells (usC u) 45)
        replace hbl := below_al hbl (.cells (usC u) 45)
        (try have lt70 := (World.ownsRow.lt own g70 hv0).2)
        replace own := World.ownsRow.alloc own (.cells (usC u) 45)
        have hszx5 : w6.heap.size ≤ (x1.alloc (.cells (usC u) 45)).heap.size := by simp; omega
        refine hK.out _ _ ⟨k4, k5⟩ (fun hS' => ?_)
        clear hS' hK K
        (try simp only [List.getElem_toArray, List.getElem_cons_succ, List.getElem_cons_zero, Act.put, List.setIfInBounds_toArray, List.set_cons_zero, List.set_cons_succ])
        generalize x1.alloc (.cells (usC u) 45) = x5 at *
        replace hsz := hszx5
        generalize x1.heap.size = g75 at *
        clear hszx5
        refine wpAnyH_ready (rs := [3]) (by kernel_rfl) (by simp) ?_
        refine AllReadyH.cons (o := _) rfl (fun K hK => ?_) AllReadyH.nil
        rw [if_pos (by rfl)]
        refine wp_append_uses (.tmp 70) (.tmp 72) rfl w6.heap.size (.slice (some ⟨g70, 0, none⟩) 0 0) rfl own U uc l rfl HU.out.2 _ (HU.out.1.below hbl) (by omega) hsz ?_
        intro v73 x6 ownx6 grx6
        replace k3 := k3.grownX grx6 (by intro e; rw [hv0] at e; injection e; omega)
        replace k4 := k4.grownX grx6 (by intro e; rw [hv0] at e; injection e; omega)
        replace k5 := k5.grownX grx6 (by intro e; rw [hv0] at e; injection e; omega)
        replace k8 := k8.grownX grx6 (by intro e; rw [hv0] at e; injection e; omega)
        replace k12 := k12.grownX grx6 (by intro e; rw [hv0] at e; injection e; omega)
        replace kb := kb.grownX grx6 (by intro e; rw [hv0] at e; injection e; omega)
        replace hbl := hbl.grown grx6 (Nat.le_trans hbs' hsz) (fun j hj => by rw [hv0] at hj; injection hj; omega)
        replace hsz := Nat.le_trans hsz grx6.size
        refine hK.out _ _ ⟨k4, k5⟩ (fun hS' => ?_)
        clear hS' hK K own
        have own := ownx6
        clear ownx6
        (try simp only [List.getElem_toArray, List.getElem_cons_succ, List.getElem_cons_zero, Act.put, List.setIfInBounds_toArray, List.set_cons_zero, List.set_cons_succ])
        refine wpAnyH_ready (rs := [6]) (by kernel_rfl) (by simp) ?_
        refine AllReadyH.cons (o := _) rfl (fun K hK => ?_) AllReadyH.nil
        rw [if_pos (by rfl)]
        refine wp_append_use1 (.tmp 73) (.tmp 75) rfl w6.heap.size v73 l.length (flatU l) rfl own (flatU_len l) u g75 1 rfl kb (by omega) hsz ?_
        intro v76 x7 ownx7 grx7
        have hob := fun r hr => (World.ownsRow.lt own r hr).1
        replace k3 := k3.grownX grx7 (by intro e; have := hob _ e.symm; omega)
        replace k4 := k4.grownX grx7 (by intro e; have := hob _ e.symm; omega)
        replace k5 := k5.grownX grx7 (by intro e; have := hob _ e.symm; omega)
        replace k8 := k8.grownX grx7 (by intro e; have := hob _ e.symm; omega)
        replace k12 := k12.grownX grx7 (by intro e; have := hob _ e.symm; omega)
        replace hbl := hbl.grown grx7 (Nat.le_trans hbs' hsz) (fun j hj => by have := hob _ hj; omega)
        refine hK.out _ _ ⟨k4, k5⟩ (fun hS' => ?_)
        clear hS' hK K own hob
        (try simp only [List.getElem_toArray, List.getElem_cons_succ, List.getElem_cons_zero, Act.put, List.setIfInBounds_toArray, List.set_cons_zero, List.set_cons_succ])
        refine wpAnyH_take (i := 7) (oi := _) (v := .pointer (some ⟨g12, 6, none⟩)) rfl (by kernel_rfl) (by kernel_rfl) (by kernel_rfl) (fun _ _ _ h => h) (Or.inl ⟨by rfl, ?_⟩) ⟨k4, k5⟩ ?_
        · intro w' hSw
          (try simp only [List.getElem_toArray, List.getElem_cons_succ, List.getElem_cons_zero])
          go_simp
        (try simp only [List.getElem_toArray, List.getElem_cons_succ, List.getElem_cons_zero, Act.put, List.setIfInBounds_toArray, List.set_cons_zero, List.set_cons_succ])
        obtain ⟨G, cap, rfl⟩ := own_slice_e ownx7
        have q12 := k12.cell 6
        have f12 := k12.free 6
        simp at q12
        have l12 := k12.lt
        refine wpAnyH_ready (rs := [8]) (by kernel_rfl) (by simp) ?_
        refine AllReadyH.cons (o := _) rfl (fun K hK => ?_) AllReadyH.nil
        (try simp only [List.getElem_toArray, List.getElem_cons_succ, List.getElem_cons_zero])
        go_simp
        have k12' := k12.stored 6 (.slice G (l.length + 1) cap)
        refine hK.out _ _ ⟨k4.other (by dsimp only; omega) _, k5.other (by dsimp only; omega) _⟩ (fun hS' => ?_)
        clear hS' hK K
        (try simp only [List.getElem_toArray, List.getElem_cons_succ, List.getElem_cons_zero, Act.put, List.setIfInBounds_toArray, List.set_cons_zero, List.set_cons_succ])
        refine wpAnyH_done (by kernel_rfl) ?_ _
        go_wp2_with fail
        go_meet
        exact ecut_of ownx7 k3 k4 k8 k12' hbl (by omega) (by omega) (by omega) (by omega) (by omega)
    · (try simp only [List.getElem_toArray, List.getElem_cons_succ, List.getElem_cons_zero])
      go_simp
      have kb := Bk.made w7 45 (usC u)
      replace k3 := k3.alloc (.cells (usC u) 45)
      replace k4 := k4.alloc (.cells (usC u) 45)
      replace k5 := k5.alloc (.cells (usC u) 45)
      replace k8 := k8.alloc (.cells (usC u) 45)
      replace k12 := k12.alloc (.cells (usC u) 45)
      replace hbl := below_al hbl (.cells (usC u) 45)
      have hszx8 : w6.heap.size ≤ (w7.alloc (.cells (usC u) 45)).heap.size := by simp; omega
      refine hK.out _ _ ⟨k4, k5⟩ (fun hS' => ?_)
      clear hS' hK K
      (try simp only [List.getElem_toArray, List.getElem_cons_succ, List.getElem_cons_zero, Act.put, List.setIfInBounds_toArray, List.set_cons_zero, List.set_cons_succ])
      generalize w7.alloc (.cells (usC u) 45) = x8 at *
      replace hsz := hszx8
      generalize w7.heap.size = g75 at *
      clear hszx8
      refine wpAnyH_ready (rs := [0]) (by kernel_rfl) (by simp) ?_
      refine AllReadyH.cons (o := _) rfl (fun K hK => ?_) AllReadyH.nil
      rw [if_pos (by rfl)]
      refine wp_build0 rfl ?_
      have ownx9 := own_build0 x8 w6.heap.size hsz
      replace k3 := k3.alloc (.cells #[] 45)
      replace k4 := k4.alloc (.cells #[] 45)
      replace k5 := k5.alloc (.cells #[] 45)
      replace k8 := k8.alloc (.cells #[] 45)
      replace k12 := k12.alloc (.cells #[] 45)
      replace hbl := below_al hbl (.cells #[] 45)
      have lkb := kb.lt
      replace kb := kb.alloc (.cells #[] 45)
      have hszx9 : w6.heap.size ≤ (x8.alloc (.cells #[] 45)).heap.size := by simp; omega
      refine hK.out _ _ ⟨k4, k5⟩ (fun hS' => ?_)
      clear hS' hK K
      (try simp only [List.getElem_toArray, List.getElem_cons_zero, Act.put, List.setIfInBounds_toArray, List.set_cons_zero, List.set_cons_succ])
      generalize x8.alloc (.cells #[] 45) = x9 at *
      have own := ownx9
      have hge0 := hsz
      replace hsz := hszx9
      have hv0 : (Value.slice (some ⟨x8.heap.size, 0, none⟩) 0 0).ownBlock = some x8.heap.size := rfl
      generalize hg70 : x8.heap.size = g70 at *
      clear ownx9 hszx9
      refine wpAnyH_ready (rs := [3]) (by kernel_rfl) (by simp) ?_
      refine AllReadyH.cons (o := _) rfl (fun K hK => ?_) AllReadyH.nil
      rw [if_pos (by rfl)]
      refine wp_append_uses (.tmp 70) (.tmp 72) rfl w6.heap.size (.slice (some ⟨g70, 0, none⟩) 0 0) rfl own U uc l rfl HU.out.2 _ (HU.out.1.below hbl) (by omega) hsz ?_
      intro v73 x10 ownx10 grx10
      replace k3 := k3.grownX grx10 (by intro e; rw [hv0] at e; injection e; omega)
      replace k4 := k4.grownX grx10 (by intro e; rw [hv0] at e; injection e; omega)
      replace k5 := k5.grownX grx10 (by intro e; rw [hv0] at e; injection e; omega)
      replace k8 := k8.grownX grx10 (by intro e; rw [hv0] at e; injection e; omega)
      replace k12 := k12.grownX grx10 (by intro e; rw [hv0] at e; injection e; omega)
      replace kb := kb.grownX grx10 (by intro e; rw [hv0] at e; injection e; omega)
      replace hbl := hbl.grown grx10 (Nat.le_trans hbs' hsz) (fun j hj => by rw [hv0] at hj; injection hj; omega)
      replace hsz := Nat.le_trans hsz grx10.size
      refine hK.out _ _ ⟨k4, k5⟩ (fun hS' => ?_)
      clear hS' hK K own
      have own := ownx10
      clear ownx10
      (try simp only [List.getElem_toArray, List.getElem_cons_succ, List.getElem_cons_zero, Act.put, List.setIfInBounds_toArray, List.set_cons_zero, List.set_cons_succ])
      refine wpAnyH_ready (rs := [6]) (by kernel_rfl) (by simp) ?_
      refine AllReadyH.cons (o := _) rfl (fun K hK => ?_) AllReadyH.nil
      rw [if_pos (by rfl)]
      refine wp_append_use1 (.tmp 73) (.tmp 75) rfl w6.heap.size v73 l.length (flatU l) rfl own (flatU_len l) u g75 1 rfl kb (by omega) hsz ?_
      intro v76 x11 ownx11 grx11
      have hob := fun r hr => (World.ownsRow.lt own r hr).1
      replace k3 := k3.grownX grx11 (by intro e; have := hob _ e.symm; omega)
      replace k4 := k4.grownX grx11 (by intro e; have := hob _ e.symm; omega)
      replace k5 := k5.grownX grx11 (by intro e; have := hob _ e.symm; omega)
      replace k8 := k8.grownX grx11 (by intro e; have := hob _ e.symm; omega)
      replace k12 := k12.grownX grx11 (by intro e; have := hob _ e.symm; omega)
      replace hbl := hbl.grown grx11 (Nat.le_trans hbs' hsz) (fun j hj => by have := hob _ hj; omega)
      refine hK.out _ _ ⟨k4, k5⟩ (fun hS' => ?_)
      clear hS' hK K own hob
      (try simp only [List.getElem_toArray, List.getElem_cons_succ, List.getElem_cons_zero, Act.put, List.setIfInBounds_toArray, List.set_cons_zero, List.set_cons_succ])
      refine wpAnyH_take (i := 7) (oi := _) (v := .pointer (some ⟨g12, 6, none⟩)) rfl (by kernel_rfl) (by kernel_rfl) (by kernel_rfl) (fun _ _ _ h => h) (Or.inl ⟨by rfl, ?_⟩) ⟨k4, k5⟩ ?_
      · intro w' hSw
        (try simp only [List.getElem_toArray, List.getElem_cons_succ, List.getElem_cons_zero])
        go_simp
      (try simp only [List.getElem_toArray, List.getElem_cons_succ, List.getElem_cons_zero, Act.put, List.setIfInBounds_toArray, List.set_cons_zero, List.set_cons_succ])
      obtain ⟨G, cap, rfl⟩ := own_slice_e ownx11
      have q12 := k12.cell 6
      have f12 := k12.free 6
      simp at q12
      have l12 := k12.lt
      refine wpAnyH_ready (rs := [8]) (by kernel_rfl) (by simp) ?_
      refine AllReadyH.cons (o := _) rfl (fun K hK => ?_) AllReadyH.nil
      (try simp only [List.getElem_toArray, List.getElem_cons_succ, List.getElem_cons_zero])
      go_simp
      have k12' := k12.stored 6 (.slice G (l.length + 1) cap)
      refine hK.out _ _ ⟨k4.other (by dsimp only; omega) _, k5.other (by dsimp only; omega) _⟩ (fun hS' => ?_)
      clear hS' hK K
      (try simp only [List.getElem_toArray, List.getElem_cons_succ, List.getElem_cons_zero, Act.put, List.setIfInBounds_toArray, List.set_cons_zero, List.set_cons_succ])
      refine wpAnyH_done (by kernel_rfl) ?_ _
      go_wp2_with fail
      go_meet
      exact ecut_of ownx11 k3 k4 k8 k12' hbl (by omega) (by omega) (by omega) (by omega) (by omega)
  case rest =>
    clear k3 k4 k5 k8 k12 hbl hbs
    obtain ⟨R, cap, k3, k4, k8, k12, hR, hbl⟩ := hcut
    have hln : (l ++ [u]).length ≤ 1000 := by simp; omega
    obtain ⟨l2, hl2⟩ : ∃ l2, l2 = l ++ [u] := ⟨_, rfl⟩
    rw [← hl2] at k12 hR hln
    have HL2 := Lib.hid hl2
    clear hl2
    go_wp2_with (first
      | (refine wpList_load_row rfl 35 (.tmp 3) rfl g3 rfl 35 (cdC c) (0, 0) _ k3 Try.underlying35 rfl (by kernel_rfl) ?_)
      | (refine wpList_load_row rfl 41 (.tmp 12) rfl g12 rfl 41 (elC el R l2.length cap) (0, 0) _ k12 Try.underlying41 rfl (by kernel_rfl) ?_))
    (with_reducible refine (forr_any c el R cap l2 s _ hR hln (by omega) (by omega)).mono ?_)
    rintro e w8 ⟨B, erB, rfl, hB, hb⟩
    replace k3 := k3.keep hb
    replace k4 := k4.keep hb
    replace k8 := k8.keep hb
    replace hbl := below_tr hbl hb
    clear hb hR k12
    have k13 := Bk.made w8 23 (cfC B)
    replace k3 := k3.alloc (.cells (cfC B) 23)
    replace k4 := k4.alloc (.cells (cfC B) 23)
    replace k8 := k8.alloc (.cells (cfC B) 23)
    replace hbl := below_al hbl (.cells (cfC B) 23)
    go_upto_region 15 with (refine wpList_store_new rfl 23 (.tmp 13) (.tmp 83) rfl rfl w8.heap.size _ _ (cfC B) rfl rfl rfl rfl (by kernel_rfl) rfl (by simp [Value.oneCell']) ?_; (generalize w8.alloc (.cells (cfC B) 23) = w9 at *))
    generalize w8.heap.size = g13 at *
    have hl2 := (HU.out.1.below hbl).more hbl.size
    go_wp2_with (first
      | (refine wpList_load_row rfl 35 (.tmp 3) rfl g3 rfl 35 (cdC c) (0, 0) _ k3 Try.underlying35 rfl (by kernel_rfl) ?_)
      | (refine wpList_load_row rfl 41 (.tmp 4) rfl g4 rfl 41 (elC el U l.length uc) (0, 0) _ k4 Try.underlying41 rfl (by kernel_rfl) ?_))
    (with_reducible refine (forr_any c el U uc l (s + 1) _ hl2 (by omega) (by omega) (by omega)).mono ?_)
    rintro e w10 ⟨D, erD, rfl, hD, hb⟩
    replace k8 := k8.keep hb
    replace k13 := k13.keep hb
    replace hbl := below_tr hbl hb
    clear hb hl2 k3 k4
    have k15 := Bk.made w10 23 (cfC D)
    replace k8 := k8.alloc (.cells (cfC D) 23)
    replace k13 := k13.alloc (.cells (cfC D) 23)
    replace hbl := below_al hbl (.cells (cfC D) 23)
    go_upto_region 16 with (refine wpList_store_new rfl 23 (.tmp 15) (.tmp 91) rfl rfl w10.heap.size _ _ (cfC D) rfl rfl rfl rfl (by kernel_rfl) rfl (by simp [Value.oneCell']) ?_; (generalize w10.alloc (.cells (cfC D) 23) = w11 at *))
    generalize w10.heap.size = g15 at *
    obtain ⟨hcan, e1, e2, e3, e4, e5, e6⟩ := HA.out
    have hem := enough_more c l u s r5.1
    rw [← HL2.out] at hem
    have hDf : erD = 0 → D.nodes = A.nodes + 8 ∧ D.slots + A.slots = D.seats ∧ D.seats = A.seats + 1 := by
      intro h0
      rcases hD with ⟨_, _, _, hD⟩ | ⟨h1, _⟩ | ⟨h1, _⟩
      · have d1 : D.nodes = forN c l (s + 1) := by rw [hD]
        have d2 : D.slots = (s + 1) / 2 + (s + 1) % 2 := by rw [hD]; rfl
        have d3 : D.seats = s + 1 := by rw [hD]; rfl
        have d4 : forN c l (s + 1) = forN c l s + 8 := by unfold forN; omega
        omega
      · omega
      · omega
    have hBf : erB = 0 → A.nodes ≤ B.nodes ∧ A.buckets ≤ B.buckets ∧ B.tasks = A.tasks ∧ B.nodes ≤ A.nodes + 1 + A.buckets * A.maps := by
      intro h0
      rcases hB with ⟨_, _, _, hB⟩ | ⟨h1, _⟩ | ⟨h1, _⟩
      · have d1 : B.nodes = forN c l2 s := by rw [hB]
        have d2 : B.buckets = bucketsN c.maps (putsN l2) := by rw [hB]; rfl
        have d3 : B.tasks = max el.tasks 1 := by rw [hB]; rfl
        rw [e1, e2, e3, e4, d1, d2, d3]
        exact ⟨hem.1, hem.2.1, rfl, hem.2.2⟩
      · omega
      · omega
    have hb1 := bucketsN_in c.maps (putsN l)
    have hAb : 1 ≤ A.buckets ∧ A.buckets ≤ 64 := by rw [e2]; exact hb1
    have hAm : 0 ≤ A.maps ∧ A.maps ≤ 8 := by rw [e4]; exact r5
    have hmul := mul_bd A.buckets A.maps 64 8 (by omega) (by omega) hAm.1 hAm.2
    have hAn : 0 ≤ A.nodes ∧ A.nodes ≤ 1000 := by
      have h1 := hcan.2
      have h5 : 0 ≤ A.maps := hAm.1
      have h7 : 0 ≤ A.chans ∧ A.chans ≤ 8 := hcan.1.1 7 (by omega)
      omega
    have hAs : 1 ≤ A.seats ∧ A.seats ≤ 8 := by rw [e6]; exact r0
    have hAl : 0 ≤ A.slots ∧ A.slots ≤ 8 := by rw [e5]; omega
    have hBer : (erB == 0) = true ∨ (erB == 0) = false := by cases (erB == 0) <;> simp
    have hDer : (erD != 0) = true ∨ (erD != 0) = false := by cases (erD != 0) <;> simp
    have HX := Lib.hid (And.intro hBf hDf)
    clear hem hBf hDf hb1 e1 e2 e3 e4 e5 e6 hcan HA hB hD HU HL2
    have c80 := k8.cell 0
    have c81 := k8.cell 1
    have c82 := k8.cell 2
    have c83 := k8.cell 3
    have c84 := k8.cell 4
    have c86 := k8.cell 6
    have d1 := k13.cell 1
    have d2 := k13.cell 2
    have d4 := k13.cell 4
    have f0 := k15.cell 0
    have f1 := k15.cell 1
    have f3 := k15.cell 3
    simp at c80 c81 c82 c83 c84 c86 d1 d2 d4 f0 f1 f3
    have l8 := k8.lt
    have l13 := k13.lt
    have l15 := k15.lt
    obtain ⟨m, hm⟩ : ∃ m, A.buckets * A.maps = m := ⟨_, rfl⟩
    rw [hm] at hmul
    have hX := HX.out
    rw [hm] at hX
    have HX2 := Lib.hid hX
    clear k8 k13 k15 hX HX
    have hw : IntKind.i64.wrap (A.buckets * A.maps) = m := by rw [hm]; exact IntWalk.i64_in _ (by omega)
    have HM := Lib.hid hm
    clear hm
    rcases hBer with hB0 | hB0 <;> rcases hDer with hD0 | hD0
    all_goals
      (try (
        have hB1 := HX2.out.1 (by simpa using hB0)
        have g1 : decide (B.nodes < A.nodes) = false := by simp; omega
        have g2 : decide (B.buckets < A.buckets) = false := by simp; omega
        have g3 : (B.tasks != A.tasks) = false := by simp [hB1.2.2.1]
        have g4 : decide (A.nodes + 1 + m < B.nodes) = false := by simp; omega
        clear hB1))
      (try (
        have hD1 := HX2.out.2 (by simpa using hD0)
        have y1 : (D.nodes == A.nodes + 8) = true := by simp; omega
        have y2 : (D.slots + A.slots == D.seats) = true := by simp; omega
        have y3 : (D.seats == A.seats + 1) = true := by simp; omega
        have y4 : D.slots + A.slots ≤ 9 ∧ 0 ≤ D.slots + A.slots := by omega
        clear hD1))
      go_wp2
      go_ret
      exact ⟨rfl, hbl⟩
end Go.Proofs.Ythaieabhlodajaa
