/- The reference's All. -/
import Derived.Test.YtdajnmmjmfhihaaMemA
import Derived.Deep.DeepCutAuto
namespace Go.Proofs.Ytdajnmmjmfhihaa
open Go.RowKit
attribute [local go_sem ↓] Go.wp_at_zero Go.wp_at_succ

def RAllRel (w : World) (A : Option Addr) (c : Nat) (zs : List Int) (l : List Acc) (v8 i : Value) (wr : World) : Prop :=
  ∃ (k : Nat) (X : Option Addr) (cx : Nat), k ≤ l.length ∧ i = .int .i64 k ∧ Below w.heap.size w wr ∧ Bk wr w.heap.size 24 #[.slice A zs.length c] ∧ Bk wr (w.heap.size + 1) 24 #[.slice none 0 0] ∧
    Bk wr (w.heap.size + 1 + 1) 24 #[.slice X zs.length cx] ∧ MemAt wr w.heap.size X zs.length cx (allCells zs (l.take k)) ∧ OwnRes wr (w.heap.size + 1 + 1 + 1) v8 (allTold zs (l.take k)) ∧ allErr zs (l.take k) = 0

/-- What 'n, r, e := Do(..)' leaves. -/
def DoCut (B : Nat) (a : Acc) (n : Nat) (zs : List Int) (wr : World) (s10 s11 s12 : Value) (wx : World) : Prop :=
  ∃ (p q : Nat) (X : Option Addr) (cx : Nat), s10 = .pointer (some ⟨p, 0, none⟩) ∧ s11 = .pointer (some ⟨q, 0, none⟩) ∧ s12 = .int .i64 (a.err n) ∧ wr.heap.size ≤ p ∧ wr.heap.size ≤ q ∧ p ≠ q ∧
    Bk wx p 24 #[.slice X n cx] ∧ Bk wx q 29 #[.int .i64 (a.valOut zs), .bool (a.okOut zs)] ∧ MemAt wx B X n cx (a.cellsOut zs) ∧ Below wr.heap.size wr wx

theorem below_setB {a w : World} (h : Below a.heap.size a w) {b : Nat} (hp : a.heap.size ≤ b) (o : Nat) (u : Value) : Below a.heap.size a (w.setCell ⟨b, o, none⟩ u) := h.setCell hp u
theorem bcells {W w1 : World} (hb : Below W.heap.size W w1) : ∀ b o, b < W.heap.size → w1.cell? ⟨b, o, none⟩ = W.cell? ⟨b, o, none⟩ := fun b o h => hb.cell (p := ⟨b, o, none⟩) h
theorem bfrozens {W w1 : World} (hb : Below W.heap.size W w1) : ∀ b o, b < W.heap.size → w1.frozen? ⟨b, o, none⟩ = W.frozen? ⟨b, o, none⟩ := fun b o h => hb.frozen (p := ⟨b, o, none⟩) h

theorem MemAt.far {w : World} {B n c g : Nat} {X : Option Addr} {zs : List Int} {t : TypeId} {cs : Array Value} (h : MemAt w B X n c zs) (hk : Bk w g t cs) (ht : 3 ≠ t) (hB : B ≤ g) (o : Nat) (u : Value) : MemAt (w.setCell ⟨g, o, none⟩ u) B X n c zs := by
  refine ⟨h.1, ?_⟩
  rcases h.2 with h' | h'
  · exact .inl (h'.stored (p := ⟨g, o, none⟩) hB u)
  · right
    refine World.ownsRow.kept (row := some g) h' ⟨rfl, rfl, rfl, by simp, fun k _ hk' => Below.heap_setCell w _ u k (fun e => hk' (by rw [e]))⟩ ?_
    rcases h'.2 with ⟨he, _⟩ | ⟨g1, cap1, cur1, he, _, h1, _⟩
    · left; rw [he]; rfl
    · right
      rw [he]
      intro e
      simp [Value.ownBlock] at e
      subst e
      have h2 : w.heap[g1]? = some (.cells cs t (0, 0)) := hk
      rw [h1] at h2
      injection h2 with h2
      injection h2 with _ h2
      exact ht h2
theorem MemAt.al {w : World} {B n c : Nat} {X : Option Addr} {zs : List Int} (h : MemAt w B X n c zs) (hB : B ≤ w.heap.size) (o : Obj) : MemAt (w.alloc o) B X n c zs := h.keep hB (below_al (Below.refl _ _) o)

theorem MemAt.grown {w w' : World} {B n c b' m sz : Nat} {X : Option Addr} {zs : List Int} {v : Value} {xs : List Value} {e : TypeId} (h : MemAt w B X n c zs) (hrow : w.ownsRow b' e sz v m xs) (hg : w.grownBy w' v.ownBlock) (hb : B ≤ b') (hB : B ≤ w.heap.size) (ht : 3 ≠ e) : MemAt w' B X n c zs := by
  refine ⟨h.1, ?_⟩
  rcases h.2 with h' | h'
  · left
    refine h'.keep fun p hp => World.cell?_of_block (hg.block p.block (by omega) (fun e => ?_))
    have := (World.ownsRow.lt hrow _ e.symm).1
    omega
  · right
    refine World.ownsRow.kept h' hg ?_
    rcases h'.2 with ⟨he, _⟩ | ⟨g1, cap1, cur1, he, _, h1, _⟩
    · left; rw [he]; rfl
    · right
      rw [he] at h' ⊢
      intro e
      rcases own_apart hrow h' (Ne.symm ht) with h2 | h2
      · rw [h2] at e; simp [Value.ownBlock] at e
      · exact h2 (by rw [← e]; rfl)

section
variable {B n c : Nat} {a : Acc} {zs : List Int} {wr w2 : World} {X : Option Addr}
abbrev zM : Obj := .cells #[.slice none 0 0] 24
abbrev zR : Obj := .cells #[.int .i64 0, .bool false] 29
theorem docut1 (hbc : Below wr.heap.size wr w2) (hM : MemAt w2 B X n c (a.cellsOut zs)) (hB : B ≤ wr.heap.size) :
    DoCut B a n zs wr (.pointer (some ⟨w2.heap.size, 0, none⟩)) (.pointer (some ⟨w2.heap.size + 1, 0, none⟩)) (.int .i64 (a.err n)) ((w2.alloc (.cells #[.slice X n c] 24)).alloc (.cells #[.int .i64 (a.valOut zs), .bool (a.okOut zs)] 29)) :=
  ⟨w2.heap.size, w2.heap.size + 1, X, c, rfl, rfl, rfl, hbc.size, by have := hbc.size; omega, by omega, (Bk.made _ _ _).alloc _, Bk.new _ (by simp) _ _, (hM.al (Nat.le_trans hB hbc.size) _).al (by have := hbc.size; simp; omega) _, below_al (below_al hbc _) _⟩
theorem docut2 (hbc : Below wr.heap.size wr w2) (hM : MemAt w2 B X n c (a.cellsOut zs)) (hB : B ≤ wr.heap.size) :
    DoCut B a n zs wr (.pointer (some ⟨w2.heap.size + 1, 0, none⟩)) (.pointer (some ⟨w2.heap.size, 0, none⟩)) (.int .i64 (a.err n)) ((w2.alloc (.cells #[.int .i64 (a.valOut zs), .bool (a.okOut zs)] 29)).alloc (.cells #[.slice X n c] 24)) :=
  ⟨w2.heap.size + 1, w2.heap.size, X, c, rfl, rfl, rfl, by have := hbc.size; omega, hbc.size, by omega, Bk.new _ (by simp) _ _, (Bk.made _ _ _).alloc _, (hM.al (Nat.le_trans hB hbc.size) _).al (by have := hbc.size; simp; omega) _, below_al (below_al hbc _) _⟩
theorem docut3 (hb2 : Below (wr.alloc zM).drew.heap.size (wr.alloc zM).drew w2) (hM : MemAt w2 B X n c (a.cellsOut zs)) (hB : B ≤ wr.heap.size) :
    DoCut B a n zs wr (.pointer (some ⟨wr.heap.size, 0, none⟩)) (.pointer (some ⟨w2.heap.size, 0, none⟩)) (.int .i64 (a.err n)) ((w2.setCell ⟨wr.heap.size, 0, none⟩ (.slice X n c)).alloc (.cells #[.int .i64 (a.valOut zs), .bool (a.okOut zs)] 29)) := by
  have hbc := below_tr (below_al (Below.refl wr.heap.size wr) zM) (below_undrew hb2)
  have kA := (Bk.made wr 24 #[.slice none 0 0]).keep (below_undrew hb2)
  have := kA.lt
  exact ⟨wr.heap.size, w2.heap.size, X, c, rfl, rfl, rfl, Nat.le_refl _, hbc.size, by omega, (kA.stored 0 _).alloc _, Bk.new _ (by simp) _ _, (hM.far kA (by decide) hB 0 _).al (by simp; omega) _, below_al (below_setB hbc (Nat.le_refl _) _ _) _⟩
theorem docut4 (hb2 : Below ((wr.alloc zM).alloc zR).drew.heap.size ((wr.alloc zM).alloc zR).drew w2) (hM : MemAt w2 B X n c (a.cellsOut zs)) (hB : B ≤ wr.heap.size) :
    DoCut B a n zs wr (.pointer (some ⟨wr.heap.size, 0, none⟩)) (.pointer (some ⟨wr.heap.size + 1, 0, none⟩)) (.int .i64 (a.err n)) (((w2.setCell ⟨wr.heap.size, 0, none⟩ (.slice X n c)).setCell ⟨wr.heap.size + 1, 0, none⟩ (.int .i64 (a.valOut zs))).setCell ⟨wr.heap.size + 1, 1, none⟩ (.bool (a.okOut zs))) := by
  have hbc := below_tr (below_al (below_al (Below.refl wr.heap.size wr) zM) zR) (below_undrew hb2)
  have kA := ((Bk.made wr 24 #[.slice none 0 0]).alloc zR).keep (below_undrew hb2)
  have kR := (Bk.new (wr.alloc zM) (g := wr.heap.size + 1) (by simp) 29 #[.int .i64 0, .bool false]).keep (below_undrew hb2)
  exact ⟨wr.heap.size, wr.heap.size + 1, X, c, rfl, rfl, rfl, Nat.le_refl _, by omega, by omega, ((kA.stored 0 _).other (by simp) _).other (by simp) _, (((kR.other (p := ⟨wr.heap.size, 0, none⟩) (by simp) _).stored 0 _).stored 1 _),
    (((hM.far kA (by decide) hB 0 _).far (kR.other (p := ⟨wr.heap.size, 0, none⟩) (by simp) _) (by decide) (by omega) 0 _).far ((kR.other (p := ⟨wr.heap.size, 0, none⟩) (by simp) _).stored 0 _) (by decide) (by omega) 1 _), below_setB (below_setB (below_setB hbc (Nat.le_refl _) _ _) (by omega) _ _) (by omega) _ _⟩
theorem docut5 (hb2 : Below (wr.alloc zR).drew.heap.size (wr.alloc zR).drew w2) (hM : MemAt w2 B X n c (a.cellsOut zs)) (hB : B ≤ wr.heap.size) :
    DoCut B a n zs wr (.pointer (some ⟨w2.heap.size, 0, none⟩)) (.pointer (some ⟨wr.heap.size, 0, none⟩)) (.int .i64 (a.err n)) (((w2.setCell ⟨wr.heap.size, 0, none⟩ (.int .i64 (a.valOut zs))).setCell ⟨wr.heap.size, 1, none⟩ (.bool (a.okOut zs))).alloc (.cells #[.slice X n c] 24)) := by
  have hbc := below_tr (below_al (Below.refl wr.heap.size wr) zR) (below_undrew hb2)
  have kR := (Bk.made wr 29 #[.int .i64 0, .bool false]).keep (below_undrew hb2)
  have := kR.lt
  exact ⟨w2.heap.size, wr.heap.size, X, c, rfl, rfl, rfl, hbc.size, Nat.le_refl _, by omega, Bk.new _ (by simp) _ _, ((kR.stored 0 _).stored 1 _).alloc _,
    ((hM.far kR (by decide) hB 0 _).far (kR.stored 0 _) (by decide) hB 1 _).al (by simp; omega) _, below_al (below_setB (below_setB hbc (Nat.le_refl _) _ _) (Nat.le_refl _) _ _) _⟩
theorem docut6 (hb2 : Below ((wr.alloc zR).alloc zM).drew.heap.size ((wr.alloc zR).alloc zM).drew w2) (hM : MemAt w2 B X n c (a.cellsOut zs)) (hB : B ≤ wr.heap.size) :
    DoCut B a n zs wr (.pointer (some ⟨wr.heap.size + 1, 0, none⟩)) (.pointer (some ⟨wr.heap.size, 0, none⟩)) (.int .i64 (a.err n)) (((w2.setCell ⟨wr.heap.size + 1, 0, none⟩ (.slice X n c)).setCell ⟨wr.heap.size, 0, none⟩ (.int .i64 (a.valOut zs))).setCell ⟨wr.heap.size, 1, none⟩ (.bool (a.okOut zs))) := by
  have hbc := below_tr (below_al (below_al (Below.refl wr.heap.size wr) zR) zM) (below_undrew hb2)
  have kR := ((Bk.made wr 29 #[.int .i64 0, .bool false]).alloc zM).keep (below_undrew hb2)
  have kA := (Bk.new (wr.alloc zR) (g := wr.heap.size + 1) (by simp) 24 #[.slice none 0 0]).keep (below_undrew hb2)
  exact ⟨wr.heap.size + 1, wr.heap.size, X, c, rfl, rfl, rfl, by omega, Nat.le_refl _, by omega, ((kA.stored 0 _).other (by simp) _).other (by simp) _, (((kR.other (p := ⟨wr.heap.size + 1, 0, none⟩) (by simp) _).stored 0 _).stored 1 _),
    (((hM.far kA (by decide) (by omega) 0 _).far (kR.other (p := ⟨wr.heap.size + 1, 0, none⟩) (by simp) _) (by decide) hB 0 _).far ((kR.other (p := ⟨wr.heap.size + 1, 0, none⟩) (by simp) _).stored 0 _) (by decide) hB 1 _), below_setB (below_setB (below_setB hbc (by omega) _ _) (Nat.le_refl _) _ _) (Nat.le_refl _) _ _⟩
end

/-- 'Did', the length being a letter. -/
def Did2 (n B : Nat) (a : Acc) (zs : List Int) (w : World) (e : Ending) (w' : World) : Prop :=
  ∃ A c, e = .returned (.tuple #[memV A n c, resV (a.valOut zs) (a.okOut zs), .int .i64 (a.err n)]) ∧ MemAt w' B A n c (a.cellsOut zs) ∧ Below w.heap.size w w'

set_option maxHeartbeats 4000000 in
theorem rall_any (A B : Option Addr) (c d : Nat) (zs : List Int) (l : List Acc) (w : World) (hM : MemAt w w.heap.size A zs.length c zs) (hl : SlAcc w w.heap.size B l) (hm : zs.length ≤ 1000000) (hm2 : l.length ≤ 1000000) :
    Calls Try.prog 18 #[memV A zs.length c, .slice B l.length d] w (AllOut w.heap.size zs l w) := by
  obtain ⟨i0, hi0, hz0, hz1, hz2⟩ := info_parts res_info
  have HMM := Lib.hid hM
  clear hM
  go_enter Try.func18, Try.ntmps18
  go_wp2_with fail
  go_loopw [8, 9] (fun v8 i wr => RAllRel w A c zs l v8 i wr) (fun _ i _ => l.length - (intOf i).toNat)
  case atStart => exact ⟨0, A, c, Nat.zero_le _, rfl, below_al (below_al (below_al (Below.refl _ _) _) _) _, ((Bk.made _ _ _).alloc _).alloc _, (Bk.new _ (by simp) _ _).alloc _, Bk.new _ (by simp) _ _, HMM.out.keep (Nat.le_refl _) (below_al (below_al (below_al (Below.refl _ _) _) _) _), World.ownsRow_nil _ _ _ _, rfl⟩
  case round =>
    obtain ⟨k, X, cx, hk, rfl, hbl, k0, k1, k2, hmem, hres, herr⟩ := hrel
    have hcl := allCells_length (l.take k) zs
    by_cases hlt : k < l.length
    · obtain ⟨b, o, hB, hbb, hcc⟩ := (hl.below hbl) (by omega)
      subst hB
      obtain ⟨a, ha⟩ : ∃ a, l[k]? = some a := ⟨_, List.getElem?_eq_getElem hlt⟩
      obtain ⟨d0, d1, d2, d3⟩ := hcc k a ha
      have i1 : (k : Int) < l.length := by omega
      have i2 : (0 : Int) ≤ k := by omega
      have c7 := k2.cell 0
      simp at c7
      have hsn := all_snoc (l.take k) a zs
      have htk : l.take (k + 1) = l.take k ++ [a] := by rw [List.take_add_one, ha]; rfl
      rw [← htk] at hsn
      have hS := Lib.hid hsn
      have hT := Lib.hid (show l = l.take k ++ a :: l.drop (k + 1) by rw [← drop_cons_of ha, List.take_append_drop])
      have HE := Lib.hid herr
      have HC := Lib.hid hcl
      have HX := Lib.hid (And.intro hmem hres)
      have HK := Lib.hid (And.intro k0 (And.intro k1 k2))
      have HA := Lib.hid hl
      have HB := Lib.hid hbl
      clear hsn htk hcc herr hcl ha hmem hres hl k0 k1 k2 hbl
      have hlw : w.heap.size + 1 + 1 < wr.heap.size := HK.out.2.2.lt
      have hbw : b < wr.heap.size := Nat.lt_of_lt_of_le hbb HB.out.size
      have HS : Hid (∀ w' : World, Below wr.heap.size wr w' → (Below wr.heap.size wr w' ∧ w'.cell? ⟨w.heap.size + 1 + 1, 0, none⟩ = some (.slice X zs.length cx) ∧ w'.cell? ⟨b, o + k * 4, none⟩ = some (.int .i64 a.kind) ∧ w'.cell? ⟨b, o + k * 4 + 1, none⟩ = some (.int .i64 a.cell) ∧
            w'.cell? ⟨b, o + k * 4 + 2, none⟩ = some (.int .i64 a.old) ∧ w'.cell? ⟨b, o + k * 4 + 3, none⟩ = some (.int .i64 a.new))) := by
        intro w' hb
        exact ⟨hb, (bcellA hb hlw).trans c7, (bcellA hb hbw).trans d0, (bcellA hb hbw).trans d1, (bcellA hb hbw).trans d2, (bcellA hb hbw).trans d3⟩
      have HN : Hid (∀ w' : World, Below wr.heap.size wr w' → Calls Try.prog 12 #[.agg #[.slice X zs.length cx], .agg #[.int .i64 a.kind, .int .i64 a.cell, .int .i64 a.old, .int .i64 a.new]] w' (Did2 zs.length w.heap.size a (allCells zs (l.take k)) w')) := by
        intro w' hb
        have := rdo_any X w.heap.size cx (allCells zs (l.take k)) a w' (Nat.le_trans HB.out.size hb.size) (by rw [HC.out]; exact (HX.out.1.keep HB.out.size hb)) (by rw [HC.out]; exact hm)
        unfold Did at this
        rw [HC.out] at this
        exact this
      have hb0 := Below.refl wr.heap.size wr
      go_upto_region 6 with fail
      go_cut [10, 11, 12] (fun s10 s11 s12 wx => DoCut w.heap.size a zs.length (allCells zs (l.take k)) wr s10 s11 s12 wx)
      case first =>
        go_region_held3 (fun w' => Below wr.heap.size wr w' ∧ w'.cell? ⟨w.heap.size + 1 + 1, 0, none⟩ = some (.slice X zs.length cx) ∧ w'.cell? ⟨b, o + k * 4, none⟩ = some (.int .i64 a.kind) ∧ w'.cell? ⟨b, o + k * 4 + 1, none⟩ = some (.int .i64 a.cell) ∧
            w'.cell? ⟨b, o + k * 4 + 2, none⟩ = some (.int .i64 a.old) ∧ w'.cell? ⟨b, o + k * 4 + 3, none⟩ = some (.int .i64 a.new))
          ((refine HS.out _ ?_; repeat (first | exact hbc | exact hb0 | apply Below.drew | apply below_al | (refine below_setB ?_ (by omega) _ _))))
          (first | (go_at_call 12; refine (HN.out _ (‹Below wr.heap.size wr _ ∧ _›.1)).mono ?_; rintro e w2 ⟨X', c', rfl, hM2, hb2⟩; have hbc := below_tr (‹Below wr.heap.size wr _ ∧ _›.1) hb2; have bc := bcells (below_undrew hb2); have bf := bfrozens (below_undrew hb2); (try have hq1 : wr.heap.size < w2.heap.size := by (have := (below_undrew hb2).size; simp at this; omega)); (try have hq2 : wr.heap.size + 1 < w2.heap.size := by (have := (below_undrew hb2).size; simp at this; omega))))
        all_goals (go_wp2_with fail; go_meet)
        all_goals (first | exact docut1 hbc hM2 HB.out.size | exact docut2 hbc hM2 HB.out.size | exact docut3 hb2 hM2 HB.out.size | exact docut4 hb2 hM2 HB.out.size | exact docut5 hb2 hM2 HB.out.size | exact docut6 hb2 hM2 HB.out.size)
      case rest =>
        clear d0 d1 d2 d3 c7 HS HN hb0
        obtain ⟨p, q, X', cx', rfl, rfl, rfl, hp, hq, hpq, kp, kq, hM3, hb3⟩ := hcut
        have hbl3 := below_tr HB.out hb3
        have k0 := HK.out.1.keep hb3
        have k1 := HK.out.2.1.keep hb3
        have k2 := HK.out.2.2.keep hb3
        have hres3 : OwnRes wc (w.heap.size + 1 + 1 + 1) u8 (allTold zs (l.take k)) := own_keepb HX.out.2 hb3
        clear HX HK HB hb3
        by_cases he : a.err zs.length = 0
        · obtain ⟨hr, hc0, hc1⟩ := Acc.err_ok he
          have HO := Lib.hid he
          have he' : a.err (allCells zs (l.take k)).length = 0 := by rw [HC.out]; exact he
          have ev : a.valOut (allCells zs (l.take k)) = a.had (allCells zs (l.take k)) := by simp only [Acc.valOut, he', if_true]
          have eo : a.okOut (allCells zs (l.take k)) = a.ok (a.had (allCells zs (l.take k))) := by simp only [Acc.okOut, he', if_true]
          have ec : a.cellsOut (allCells zs (l.take k)) = a.make (allCells zs (l.take k)) := by simp only [Acc.cellsOut, he', if_true]
          rw [ev, eo] at kq
          rw [ec] at hM3
          rw [he]
          clear ev eo ec he he'
          have hlen : (allTold zs (l.take k)).length = k := by rw [allTold_length, List.length_take]; omega
          generalize hhad : a.had (allCells zs (l.take k)) = had at *
          generalize hok : a.ok had = ok at *
          have HHO := Lib.hid (And.intro hhad hok)
          clear hhad hok
          have c2 := k2.cell 0
          have f2 := k2.free 0
          have cp := kp.cell 0
          have cq0 := kq.cell 0
          have cq1 := kq.cell 1
          simp at c2 cp cq0 cq1
          have hq2 : ¬ q = w.heap.size + 1 + 1 := by omega
          have hres4 : (wc.setCell ⟨w.heap.size + 1 + 1, 0, none⟩ (.slice X' zs.length cx')).ownsRow (w.heap.size + 1 + 1 + 1) 29 2 u8 k (resCells (allTold zs (l.take k))) := by
            have h' := own_keepSet hres3 (p := ⟨w.heap.size + 1 + 1, 0, none⟩) (by simp) (.slice X' zs.length cx')
            rw [hlen] at h'
            exact h'
          have hrow := World.ownsRow.alloc hres4 (.cells #[.int .i64 had, .bool ok] 29)
          have hM4 := hM3.far k2 (by decide) (by omega) 0 (.slice X' zs.length cx')
          have hbl4 := below_setB hbl3 (b := w.heap.size + 1 + 1) (by omega) 0 (.slice X' zs.length cx')
          have j0 := k0.other (p := ⟨w.heap.size + 1 + 1, 0, none⟩) (by simp; omega) (.slice X' zs.length cx')
          have j1 := k1.other (p := ⟨w.heap.size + 1 + 1, 0, none⟩) (by simp) (.slice X' zs.length cx')
          have j2 := k2.stored 0 (.slice X' zs.length cx')
          have hl2 := k2.lt
          have HJ := Lib.hid (And.intro j0 (And.intro j1 j2))
          have HR := Lib.hid hres3
          have HM := Lib.hid (And.intro hM4 hbl4)
          clear j0 j1 j2 k0 k1 k2 kp kq hres3 hM3 hM4 hbl3 hbl4
          have hnw := res_news (wc.setCell ⟨w.heap.size + 1 + 1, 0, none⟩ (.slice X' zs.length cx')) had ok
          simp only [World.size_setCell] at hnw
          go_wp2_with (at_builtin; go_must (refine wpList_append_own_at _ rfl (.tmp 35) (.tmp 37) _ rfl (w.heap.size + 1 + 1 + 1) 29 i0 _ 2 16 Try.underlying37 hi0 hz0 hz1 hz2 rfl (by omega) u8 k _ rfl hrow ⟨wc.heap.size, 0, none⟩ 1 1 [.int .i64 had, .bool ok] rfl rfl hnw (res_one had ok) (by simp only [maxLen]; omega) (by omega) (by simp; omega) ?_; intro v9 w4 hrow4 hgrow4 _ _))
          go_roundw
          case rel =>
            obtain ⟨e1, e2, e3⟩ := hS.out
            obtain ⟨j0, j1, j2⟩ := HJ.out
            obtain ⟨hM4, hbl4⟩ := HM.out
            have hbl5 := (below_al hbl4 (.cells #[.int .i64 had, .bool ok] 29)).grown hgrow4 (by simp; omega) (fun j hj => by have := (World.ownsRow.lt hrow _ hj).1; omega)
            refine ⟨k + 1, X', cx', by omega, by go_num, hbl5, ?_, ?_, ?_, ?_, ?_, by rw [e3 HE.out]; exact HO.out⟩
            · exact (j0.alloc _).grown hgrow4 (fun e => by have := (World.ownsRow.lt hrow _ e.symm).1; omega)
            · exact (j1.alloc _).grown hgrow4 (fun e => by have := (World.ownsRow.lt hrow _ e.symm).1; omega)
            · exact (j2.alloc _).grown hgrow4 (fun e => by have := (World.ownsRow.lt hrow _ e.symm).1; omega)
            · rw [e1]
              exact (hM4.al hbl4.size _).grown hrow hgrow4 (by omega) (by simp; omega) (by decide)
            · rw [e2]
              unfold OwnRes
              rw [List.length_append, hlen]
              simpa [resCells] using hrow4
          case measure => simp [intOf]; omega
        · have hn : (a.err zs.length != 0) = true := by simpa using he
          have c0 := k0.cell 0
          have c1 := k1.cell 0
          have f1 := k1.free 0
          simp at c0 c1
          go_wp2
          have hb5 := below_setB hbl3 (b := w.heap.size + 1) (by omega) 0 (.slice A zs.length c)
          have hbad : allErr zs l = a.err zs.length := by
            have := allErr_bad (l.take k) (l.drop (k + 1)) a zs HE.out he
            rwa [← hT.out] at this
          exact bodyPost_ret (v := .tuple #[memV A zs.length c, .slice none 0 0, .int .i64 (a.err zs.length)]) (by simp [results, Try.results18, go_sem, c1]) rfl (allOut_bad hbad he (Nat.le_refl _) HMM.out hb5)
    · obtain rfl : k = l.length := by omega
      rw [List.take_length] at hmem hres herr hcl
      have c2 := k2.cell 0
      have c1 := k1.cell 0
      have f1 := k1.free 0
      simp at c1 c2
      have HE := Lib.hid herr
      have HC := Lib.hid hcl
      have HX := Lib.hid (And.intro hmem hres)
      have hkl := k1.lt
      clear herr hcl hmem hres hl
      go_wp2
      have hb5 := below_setB hbl (b := w.heap.size + 1) (by omega) 0 (.slice X zs.length cx)
      have hr5 := own_keepSet HX.out.2 (p := ⟨w.heap.size + 1, 0, none⟩) (by simp) (.slice X zs.length cx)
      exact bodyPost_ret (v := .tuple #[memV X zs.length cx, u8, .int .i64 0]) (by simp [results, Try.results18, go_sem, c1]) rfl (allOut_ok HE.out (HX.out.1.far k1 (by decide) (by omega) 0 _) (own_lower hr5 (by omega)) hb5)
end Go.Proofs.Ytdajnmmjmfhihaa
