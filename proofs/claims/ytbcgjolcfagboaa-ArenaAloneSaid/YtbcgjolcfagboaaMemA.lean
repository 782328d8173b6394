/- Accesses one behind the other: mem.All, the reference's All, and Told. -/
import Derived.Test.YtbcgjolcfagboaaMemS
namespace Go.Proofs.Ytbcgjolcfagboaa
open Go.RowKit
attribute [local go_sem ↓] Go.wp_at_zero Go.wp_at_succ

def accCells (l : List Acc) : List Value := l.flatMap fun a => [.int .i64 a.kind, .int .i64 a.cell, .int .i64 a.old, .int .i64 a.new]
def resCells (l : List (Int × Bool)) : List Value := l.flatMap fun r => [.int .i64 r.1, .bool r.2]

/-- The first code that isn't OK, the cells behind all, and what each told. -/
def allErr : List Int → List Acc → Int
  | _, [] => 0
  | zs, a :: l => if a.err zs.length = 0 then allErr (a.make zs) l else a.err zs.length
def allCells : List Int → List Acc → List Int
  | zs, [] => zs
  | zs, a :: l => allCells (a.make zs) l
def allTold : List Int → List Acc → List (Int × Bool)
  | _, [] => []
  | zs, a :: l => (a.had zs, a.ok (a.had zs)) :: allTold (a.make zs) l

theorem allCells_length (l : List Acc) : ∀ zs, (allCells zs l).length = zs.length := by
  induction l with
  | nil => intro zs; rfl
  | cons a l ih => intro zs; rw [allCells, ih, Acc.make_length]
theorem allTold_length (l : List Acc) : ∀ zs, (allTold zs l).length = l.length := by
  induction l with
  | nil => intro zs; rfl
  | cons a l ih => intro zs; simp [allTold, ih]
theorem all_snoc (l : List Acc) (a : Acc) : ∀ zs, allCells zs (l ++ [a]) = a.make (allCells zs l) ∧ allTold zs (l ++ [a]) = allTold zs l ++ [(a.had (allCells zs l), a.ok (a.had (allCells zs l)))] ∧
    (allErr zs l = 0 → allErr zs (l ++ [a]) = a.err zs.length) := by
  induction l with
  | nil =>
    intro zs
    refine ⟨rfl, rfl, fun _ => ?_⟩
    simp only [List.nil_append, allErr]
    split <;> simp_all
  | cons b l ih =>
    intro zs
    obtain ⟨h1, h2, h3⟩ := ih (b.make zs)
    refine ⟨by simp only [List.cons_append, allCells]; exact h1, by simp only [List.cons_append, allTold, allCells]; rw [h2], fun h => ?_⟩
    simp only [List.cons_append, allErr] at h ⊢
    split at h
    · rename_i hb
      rw [if_pos hb, h3 h, Acc.make_length]
    · contradiction
theorem allErr_bad (l l' : List Acc) (a : Acc) : ∀ zs, allErr zs l = 0 → a.err zs.length ≠ 0 → allErr zs (l ++ a :: l') = a.err zs.length := by
  induction l with
  | nil => intro zs _ h; simp [allErr, h]
  | cons b l ih =>
    intro zs h hb
    simp only [List.cons_append, allErr] at h ⊢
    split at h
    · rename_i he
      rw [if_pos he, ih (b.make zs) h (by rwa [Acc.make_length]), Acc.make_length]
    · contradiction

theorem res_info : (Try.prog.info? 43).map (fun i => (i.zero, i.size, i.bytes)) = some (some (.agg #[.int .i64 0, .bool false]), 2, 16) := by kernel_rfl

/-- A slice of so many accesses. -/
def SlAcc (w : World) (B : Nat) (A : Option Addr) (l : List Acc) : Prop :=
  0 < l.length → ∃ b o, A = some ⟨b, o, none⟩ ∧ b < B ∧ ∀ k a, l[k]? = some a → w.cell? ⟨b, o + k * 4, none⟩ = some (.int .i64 a.kind) ∧ w.cell? ⟨b, o + k * 4 + 1, none⟩ = some (.int .i64 a.cell) ∧
    w.cell? ⟨b, o + k * 4 + 2, none⟩ = some (.int .i64 a.old) ∧ w.cell? ⟨b, o + k * 4 + 3, none⟩ = some (.int .i64 a.new)
theorem SlAcc.below {w w' : World} {B : Nat} {A : Option Addr} {l : List Acc} (h : SlAcc w B A l) (hb : Below B w w') : SlAcc w' B A l := by
  intro hl
  obtain ⟨b, o, e, hbb, hc⟩ := h hl
  refine ⟨b, o, e, hbb, fun k a ha => ?_⟩
  obtain ⟨h1, h2, h3, h4⟩ := hc k a ha
  exact ⟨(hb.cell (p := ⟨b, _, none⟩) hbb).trans h1, (hb.cell (p := ⟨b, _, none⟩) hbb).trans h2, (hb.cell (p := ⟨b, _, none⟩) hbb).trans h3, (hb.cell (p := ⟨b, _, none⟩) hbb).trans h4⟩
theorem SlAcc.more {w : World} {B B' : Nat} {A : Option Addr} {l : List Acc} (h : SlAcc w B A l) (hB : B ≤ B') : SlAcc w B' A l := by
  intro hl
  obtain ⟨b, o, e, hbb, hc⟩ := h hl
  exact ⟨b, o, e, Nat.lt_of_lt_of_le hbb hB, hc⟩
theorem SlAcc.keepb {w w' : World} {A : Option Addr} {l : List Acc} (h : SlAcc w w.heap.size A l) (hb : Below w.heap.size w w') : SlAcc w' w'.heap.size A l := (h.below hb).more hb.size

/-- The value owns the results. -/
def OwnRes (w : World) (base : Nat) (v : Value) (rs : List (Int × Bool)) : Prop := w.ownsRow base 43 2 v rs.length (resCells rs)

def AllRel (w : World) (A : Option Addr) (c : Nat) (zs : List Int) (l : List Acc) (v7 : Value) (v8 i : Value) (wr : World) : Prop :=
  ∃ k : Nat, k ≤ l.length ∧ i = .int .i64 k ∧ Below w.heap.size w wr ∧ Bk wr w.heap.size 53 #[.slice A zs.length c] ∧ Bk wr (w.heap.size + 1) 53 #[.slice none 0 0] ∧
    OwnInts wr (w.heap.size + 1 + 1) v7 (allCells zs (l.take k)) ∧ OwnRes wr (w.heap.size + 1 + 1) v8 (allTold zs (l.take k)) ∧ allErr zs (l.take k) = 0

def allCellsOut (zs : List Int) (l : List Acc) : List Int := if allErr zs l = 0 then allCells zs l else zs
def allToldOut (zs : List Int) (l : List Acc) : List (Int × Bool) := if allErr zs l = 0 then allTold zs l else []
/-- What All hands back. -/
def AllOut (B : Nat) (zs : List Int) (l : List Acc) (w : World) (e : Ending) (w' : World) : Prop :=
  ∃ A c R d, e = .returned (.tuple #[memV A zs.length c, .slice R (allToldOut zs l).length d, .int .i64 (allErr zs l)]) ∧ MemAt w' B A zs.length c (allCellsOut zs l) ∧ OwnRes w' w.heap.size (.slice R (allToldOut zs l).length d) (allToldOut zs l) ∧ Below w.heap.size w w'
theorem allOut_bad {B : Nat} {zs : List Int} {l : List Acc} {w w' : World} {A : Option Addr} {c : Nat} {er : Int} (h0 : allErr zs l = er) (he : er ≠ 0) (hB : B ≤ w.heap.size) (h : MemAt w B A zs.length c zs) (hb : Below w.heap.size w w') :
    AllOut B zs l w (.returned (.tuple #[memV A zs.length c, .slice none 0 0, .int .i64 er])) w' := by
  subst h0
  have h1 : allToldOut zs l = [] := by simp [allToldOut, he]
  have h2 : allCellsOut zs l = zs := by simp [allCellsOut, he]
  exact ⟨A, c, none, 0, by rw [h1]; rfl, by rw [h2]; exact h.keep hB hb, by rw [h1]; exact World.ownsRow_nil _ _ _ _, hb⟩
theorem allOut_ok {B : Nat} {zs : List Int} {l : List Acc} {w w' : World} {A : Option Addr} {c : Nat} {v : Value} (h0 : allErr zs l = 0) (h : MemAt w' B A zs.length c (allCells zs l)) (hr : OwnRes w' w.heap.size v (allTold zs l)) (hb : Below w.heap.size w w') :
    AllOut B zs l w (.returned (.tuple #[memV A zs.length c, v, .int .i64 0])) w' := by
  have h1 : allToldOut zs l = allTold zs l := by simp [allToldOut, h0]
  have h2 : allCellsOut zs l = allCells zs l := by simp [allCellsOut, h0]
  obtain ⟨R, d, rfl⟩ := own_slice hr
  exact ⟨A, c, R, d, by rw [h1, h0], by rw [h2]; exact h, by rw [h1]; exact hr, hb⟩

theorem drop_cons_of {α : Type} {l : List α} {k : Nat} {a : α} (h : l[k]? = some a) : l.drop k = a :: l.drop (k + 1) := by
  obtain ⟨hk, rfl⟩ := List.getElem?_eq_some_iff.1 h
  exact List.drop_eq_getElem_cons hk

/-- Rows of two kinds of elements lie in two blocks. -/
theorem own_apart {w : World} {b b' n n' m' : Nat} {e e' : TypeId} {sz sz' g cap : Nat} {v : Value} {xs xs' : List Value} (h : w.ownsRow b e sz v n xs) (h' : w.ownsRow b' e' sz' (.slice (some ⟨g, 0, none⟩) m' cap) n' xs') (hne : e ≠ e') :
    v.ownBlock = none ∨ v.ownBlock ≠ some g := by
  rcases h.2 with ⟨rfl, _⟩ | ⟨g1, cap1, cur1, rfl, _, h1, _⟩
  · exact .inl rfl
  · right
    intro hg
    simp [Value.ownBlock] at hg
    subst hg
    rcases h'.2 with ⟨h2, _⟩ | ⟨g2, cap2, cur2, h2, _, h3, _⟩
    · simp at h2
    · injection h2 with h2
      injection h2 with h2
      injection h2 with h2
      subst h2
      rw [h1] at h3
      injection h3 with h3
      injection h3 with _ h3
      exact hne h3
theorem turn_n (a : Acc) (base g cap n : Nat) (zs : List Int) (w : World) (h : OwnInts w base (.slice (some ⟨g, 0, none⟩) n cap) zs) (hr : a.right = true) (hc : a.cell < n) (hn : zs.length = n) (hg : g < w.heap.size) :
    Calls Try.prog 35 #[.slice (some ⟨g, 0, none⟩) n cap, accV a] w fun e w' => e = .returned (resV (a.had zs) (a.ok (a.had zs))) ∧ OwnInts w' base (.slice (some ⟨g, 0, none⟩) n cap) (a.make zs) ∧ w.grownBy w' (some g) := by
  subst hn
  exact turn_any a base g cap zs w h hr hc hg
theorem res_news (w : World) (had : Int) (ok : Bool) : ∀ (j : Nat) (u : Value), [Value.int .i64 had, .bool ok][j]? = some u → (w.alloc (.cells #[.int .i64 had, .bool ok] 43)).cell? ((⟨w.heap.size, 0, none⟩ : Addr).add j) = some u := by
  intro j u hu
  rw [Go.WideShapes.add_plain, Nat.zero_add, (Bk.made w 43 #[.int .i64 had, .bool ok]).cell j]
  simpa using hu
theorem res_one (had : Int) (ok : Bool) : ∀ u ∈ [Value.int .i64 had, .bool ok], u.oneCell' = true := by
  intro u hu
  simp at hu
  rcases hu with rfl | rfl <;> rfl

set_option maxHeartbeats 4000000 in
theorem all_any (A B : Option Addr) (M c d : Nat) (zs : List Int) (l : List Acc) (w : World) (hB : M ≤ w.heap.size) (hM : MemAt w M A zs.length c zs) (hl : SlAcc w w.heap.size B l) (hm : zs.length ≤ 1000000) (hm2 : l.length ≤ 1000000) :
    Calls Try.prog 27 #[memV A zs.length c, .slice B l.length d] w (AllOut M zs l w) := by
  have h := hM.sl hB
  have HMM := Lib.hid hM
  clear hM
  obtain ⟨i0, hi0, hz0, hz1, hz2⟩ := info_parts res_info
  go_enter Try.func27, Try.ntmps27
  go_wp2_with fail
  have hb0 := below_al (below_al (Below.refl w.heap.size w) (.cells #[.slice A zs.length c] 53)) (.cells #[.slice none 0 0] 53)
  refine (clone_any A c zs _ (h.keepb hb0) hm).mono ?_
  rintro e w1 ⟨v7, rfl, hown, hb1⟩
  have k0 := ((Bk.made w 53 #[.slice A zs.length c]).alloc (.cells #[.slice none 0 0] 53)).keep hb1
  have k1 := ((Bk.new (w.alloc (.cells #[.slice A zs.length c] 53)) (g := w.heap.size + 1) (by simp) 53 #[.slice none 0 0])).keep hb1
  have hbl := below_tr hb0 hb1
  simp only [World.size_alloc] at hown
  obtain ⟨G, cap7, rfl⟩ := own_slice hown
  clear hb0 hb1
  go_wp2_with fail
  go_loopw [8, 17] (fun v8 i wr => AllRel w A c zs l (.slice G zs.length cap7) v8 i wr) (fun _ i _ => l.length - (intOf i).toNat)
  case atStart => exact ⟨0, Nat.zero_le _, rfl, hbl, k0, k1, by simpa [allCells] using hown, World.ownsRow_nil _ _ _ _, rfl⟩
  case round =>
    clear hbl k0 k1 hown
    obtain ⟨k, hk, rfl, hbl, k0, k1, hown, hres, herr⟩ := hrel
    have hcl := allCells_length (l.take k) zs
    by_cases hlt : k < l.length
    · obtain ⟨b, o, hB, hbb, hcc⟩ := (hl.below hbl) (by omega)
      subst hB
      obtain ⟨a, ha⟩ : ∃ a, l[k]? = some a := ⟨_, List.getElem?_eq_getElem hlt⟩
      obtain ⟨d0, d1, d2, d3⟩ := hcc k a ha
      have i1 : (k : Int) < l.length := by omega
      have hsn := all_snoc (l.take k) a zs
      have htk : l.take (k + 1) = l.take k ++ [a] := by rw [List.take_add_one, ha]; rfl
      rw [← htk] at hsn
      have hS := Lib.hid hsn
      have hT := Lib.hid (show l = l.take k ++ a :: l.drop (k + 1) by rw [← drop_cons_of ha, List.take_append_drop])
      have HE := Lib.hid herr
      have HC := Lib.hid hcl
      have HX := Lib.hid (And.intro hown hres)
      have HA := Lib.hid (And.intro h hl)
      clear hsn htk hcc herr hcl ha hown hres h hl
      by_cases he : a.err zs.length = 0
      · obtain ⟨hr, hc0, hc1⟩ := Acc.err_ok he
        have hpos : 0 < zs.length := by omega
        have HO := Lib.hid he
        go_wp2_with fail
        refine (fault_any zs.length a _).mono ?_
        rintro e w2 ⟨rfl, hb2⟩
        rw [he]
        clear he
        have hbl2 := below_tr (below_al hbl _) hb2
        have kk0 := (k0.alloc _).keep hb2
        have kk1 := (k1.alloc _).keep hb2
        have kk2 := (Bk.made wr 41 #[.int .i64 a.kind, .int .i64 a.cell, .int .i64 a.old, .int .i64 a.new]).keep hb2
        have hown2 : OwnInts w2 (w.heap.size + 1 + 1) (.slice G zs.length cap7) (allCells zs (l.take k)) := own_keepb (HX.out.1.alloc (.cells #[.int .i64 a.kind, .int .i64 a.cell, .int .i64 a.old, .int .i64 a.new] 41)) hb2
        have hres2 := own_keepb (World.ownsRow.alloc HX.out.2 (.cells #[.int .i64 a.kind, .int .i64 a.cell, .int .i64 a.old, .int .i64 a.new] 41)) hb2
        have q0 := kk2.cell 0
        have q1 := kk2.cell 1
        have q2 := kk2.cell 2
        have q3 := kk2.cell 3
        simp at q0 q1 q2 q3
        obtain ⟨g, cap', hv, hg1, hg2⟩ := World.ownsRow.form hown2 (by rw [HC.out]; exact hpos)
        injection hv with hG hn hcap
        subst hG
        clear d0 d1 d2 d3 hb2 k0 k1 hbl hn hcap
        go_wp2_with fail

        (with_reducible refine (turn_n a _ g cap7 zs.length _ _ hown2 hr hc1 HC.out hg2).mono ?_)
        rintro e w3 ⟨rfl, hown3, hgrow⟩
        clear q0 q1 q2 q3 kk2
        generalize hhad : a.had (allCells zs (l.take k)) = had at *
        generalize hok : a.ok had = ok at *
        have HHO := Lib.hid (And.intro hhad hok)
        clear hhad hok
        have hres3 : OwnRes w3 (w.heap.size + 1 + 1) u8 (allTold zs (l.take k)) := World.ownsRow.kept hres2 hgrow (own_apart hres2 hown2 (by decide))
        have hres4 := World.ownsRow.alloc hres3 (.cells #[.int .i64 had, .bool ok] 43)
        have hbl3 : Below w.heap.size w w3 := hbl2.grown hgrow hbl2.size (fun k hk => by injection hk; omega)
        have k0 := kk0.grown hgrow (fun e => by injection e; omega)
        have k1 := kk1.grown hgrow (fun e => by injection e; omega)
        have hlen : (allTold zs (l.take k)).length = k := by rw [allTold_length, List.length_take]; omega
        have hrow : (w3.alloc (.cells #[.int .i64 had, .bool ok] 43)).ownsRow (w.heap.size + 1 + 1) 43 2 u8 k (resCells (allTold zs (l.take k))) := by have h' := hres4; rw [hlen] at h'; exact h'
        have hsz3 : w.heap.size + 1 + 1 ≤ w3.heap.size := by have := k1.lt; omega
        clear kk0 kk1 hres2 hres3 hres4 hown2 hgrow hbl2
        go_wp2_with (at_builtin; go_must (refine wpList_append_own_at _ rfl (.tmp 29) (.tmp 33) _ rfl (w.heap.size + 1 + 1) 43 i0 _ 2 16 Try.underlying78 hi0 hz0 hz1 hz2 rfl (by omega) u8 k _ rfl hrow ⟨w3.heap.size, 0, none⟩ 1 1 [.int .i64 had, .bool ok] rfl rfl (res_news w3 had ok) (res_one had ok) (by simp only [maxLen]; omega) (by omega) (by simp; omega) ?_; intro v9 w4 hrow4 hgrow4 _ _))
        go_roundw
        case rel =>
          obtain ⟨e1, e2, e3⟩ := hS.out
          have hbl4 := (below_al hbl3 (.cells #[.int .i64 had, .bool ok] 43)).grown hgrow4 (by simp; omega) (fun j hj => by have := (World.ownsRow.lt hrow _ hj).1; omega)
          have j0 := (k0.alloc (.cells #[.int .i64 had, .bool ok] 43)).grown hgrow4 (fun e => by have := (World.ownsRow.lt hrow _ e.symm).1; omega)
          have j1 := (k1.alloc (.cells #[.int .i64 had, .bool ok] 43)).grown hgrow4 (fun e => by have := (World.ownsRow.lt hrow _ e.symm).1; omega)
          refine ⟨k + 1, by omega, by go_num, hbl4, j0, j1, ?_, ?_, by rw [e3 HE.out]; exact HO.out⟩
          · rw [e1]
            exact World.ownsRow.kept (hown3.alloc _) hgrow4 (.inr (fun e => by rcases own_apart hrow (hown3.alloc _) (by decide) with h | h <;> simp_all [Value.ownBlock]))
          · rw [e2]
            unfold OwnRes
            rw [List.length_append, hlen]
            simpa [resCells] using hrow4
        case measure => simp [intOf]; omega
      · have hn : (a.err zs.length != 0) = true := by simpa using he
        go_wp2_with fail
        refine (fault_any zs.length a _).mono ?_
        rintro e w2 ⟨rfl, hb2⟩
        have kk0 := (k0.alloc _).keep hb2
        have kk1 := (k1.alloc _).keep hb2
        have c0 := kk0.cell 0
        have c1 := kk1.cell 0
        have f1 := kk1.free 0
        simp at c0 c1
        clear d0 d1 d2 d3
        go_wp2
        have hb3 := below_set (below_tr (below_al hbl _) hb2) (p := ⟨w.heap.size + 1, 0, none⟩) (by simp) (.slice A zs.length c)
        have hbad : allErr zs l = a.err zs.length := by
          have := allErr_bad (l.take k) (l.drop (k + 1)) a zs HE.out he
          rwa [← hT.out] at this
        refine bodyPost_ret (v := .tuple #[memV A zs.length c, .slice none 0 0, .int .i64 (a.err zs.length)]) (by simp [results, Try.results27, go_sem, c1]) rfl (allOut_bad hbad he hB HMM.out hb3)
    · obtain rfl : k = l.length := by omega
      rw [List.take_length] at hown hres herr hcl
      have c1 := k1.cell 0
      have f1 := k1.free 0
      simp at c1
      have HE := Lib.hid herr
      have HC := Lib.hid hcl
      have HX := Lib.hid (And.intro hown hres)
      have HA := Lib.hid (And.intro h hl)
      have hkl := k1.lt
      clear herr hcl hown hres h hl
      go_wp2
      have hb3 := below_set hbl (p := ⟨w.heap.size + 1, 0, none⟩) (by simp) (.slice G zs.length cap7)
      have hs3 := HX.out.1.keepSet (p := ⟨w.heap.size + 1, 0, none⟩) (by simp) (.slice G zs.length cap7)
      have hr3 := own_keepSet HX.out.2 (p := ⟨w.heap.size + 1, 0, none⟩) (by simp) (.slice G zs.length cap7)
      refine bodyPost_ret (v := .tuple #[memV G zs.length cap7, u8, .int .i64 0]) (by simp [results, Try.results27, go_sem, c1]) rfl (allOut_ok HE.out (MemAt.of_own hs3 HC.out (by omega)) (own_lower hr3 (by omega)) hb3)
end Go.Proofs.Ytbcgjolcfagboaa
