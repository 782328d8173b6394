/- The reference's Moves, and Pairs. -/
import Derived.Test.YtekibkfpamfmoaaRefB
import Derived.Test.YtekibkfpamfmoaaRingD
namespace Go.Proofs.Ytekibkfpamfmoaa
open Go.RowKit
attribute [local go_sem ↓] Go.wp_at_zero Go.wp_at_succ

theorem own_keepR {w w' : World} {base n : Nat} {e : TypeId} {sz : Nat} {v : Value} {xs : List Value} (h : w.ownsRow base e sz v n xs) (hb : Below w.heap.size w w') : w'.ownsRow base e sz v n xs :=
  World.ownsRow.kept (row := none) h ⟨hb.os, hb.tape, hb.output, hb.size, fun k hk _ => hb.block k hk⟩ (by cases h' : v.ownBlock <;> simp)
theorem Bk.grownX {w w' : World} {g : Nat} {t : TypeId} {cs : Array Value} {row : Option Nat} (h : Bk w g t cs) (hg : w.grownBy w' row) (hne : some g ≠ row) : Bk w' g t cs := (hg.block g h.lt hne).trans h
theorem wp_append_at {P : Program} {o : Oper} {a : Act} {w : World} {K : Act → World → Prop} {Q : Exit → Act → World → Prop} (s x : Operand) (t : TypeId)
    (ho : o.op = .call { callee := .builtin .append, args := #[s, x], argTypes := #[t, t] })
    (base : Nat) (e : TypeId) (i : TypeInfo) (z : Value) (size bytes : Nat) (ht : P.underlying t = some (.slice e)) (hi : P.info? e = some i) (hz : i.zero = some z)
    (hsize : i.size = size) (hby : i.bytes = bytes) (hzs : z.cells.size = size) (hsz : 0 < size)
    (v : Value) (n : Nat) (xs : List Value) (hs : a.eval s = v) (hown : w.ownsRow base e size v n xs)
    (ad : Addr) (m c : Nat) (news : List Value) (hx : a.eval x = .slice (some ad) m c) (hl : news.length = m * size) (hnews : ∀ j u, news[j]? = some u → w.cell? (ad.add j) = some u) (h1 : ∀ u ∈ news, u.oneCell' = true)
    (h63 : n + m ≤ maxLen) (hbytes : (n + m) * bytes ≤ 140737488355328) (hbase : base ≤ w.heap.size)
    (h : ∀ v' w', w'.ownsRow base e size v' (n + m) (xs ++ news) → w.grownBy w' v.ownBlock → K (a.put o.dst v') w') : o.wp P a w K Q := by
  obtain ⟨v', w', hr, h2, h3, h4, h5⟩ := run_append_own_at (P := P) w base t o.type e i z size bytes ht hi hz hsize hby hzs hsz v n xs hown ad m c news hl hnews h1 h63 hbytes hbase
  unfold Oper.wp execOp
  simp only [ho, resolve, invoke, builtin, Sem.run_bind, Sem.run_pure, Result.andThen_ok, List.map_toArray, List.map_cons, List.map_nil, hs, hx, hr]
  exact h v' w' h2 h3
theorem place0 (l : Ly) (s r : Int) (f : LyFit l) (h : ringAt l s r ≠ -1) : 0 ≤ placeAt l s r 0 := by
  unfold placeAt
  rw [if_neg (by omega)]
  have := ringAt_in l s r f
  simp
  omega

set_option maxRecDepth 100000 in
set_option maxHeartbeats 8000000 in
theorem rmoves_go (l : Ly) (s r t b : Int) (w : World) (f : LyFit l) (hb : b ≤ 9223372036854775807) (h1 : ringAt l s r ≠ -1) (h2 : fitsB r t b = true) (h3 : ringAt l s (r + 1) ≠ -1) :
    Calls Try.prog 16 #[lyV l, .int .i64 s, .int .i64 r, .int .i64 t, .int .i64 b] w (MovesPost ((List.range (b - t).toNat).map (moveAt l s r t)) w) := by
  obtain ⟨i0, hi0, hz0, hz1, hz2⟩ := info_parts pair_info
  have hof := ringAt_of l s r h1
  have hn := ringsN_in l.c.tasks
  have hs1 := sizeN_in r
  have hf : 0 ≤ t ∧ t ≤ b ∧ b - t ≤ sizeN r := by simpa [fitsB] using h2
  have hft : (decide (ringAt l s r ≠ -1) && fitsB r t b) = true := by simp [h1, h2]
  have hp0 := place0 l s (r + 1) f h3
  have g5 : decide (placeAt l s (r + 1) 0 < 0) = false := by simp; omega
  obtain ⟨n, hnn⟩ : ∃ n : Nat, b = t + n := ⟨(b - t).toNat, by omega⟩
  have hnt : (b - t).toNat = n := by omega
  rw [hnt]
  have hA : ∀ k : Nat, moveAt l s r t k = (placeAt l s r (t + k), placeAt l s (r + 1) (t + k)) := fun k => rfl
  generalize moveAt l s r t = F at *
  have HFT := Lib.hid hft
  have HA := Lib.hid hA
  have hr0 : 0 ≤ r ∧ r ≤ 4 := by omega
  have hnb : (n : Int) ≤ 131072 := by omega
  have htb : t + n ≤ 9223372036854775807 := by omega
  have hbn1 : b - t ≤ n := by omega
  have hbn2 : n ≤ b - t := by omega
  obtain ⟨ht0, ht1, _⟩ := hf
  clear h1 h2 h3 hA hnt hof hn hnn hft hp0
  go_enter Try.func16, Try.ntmps16
  go_wp2_with (refine wpList_load_row rfl 26 (.tmp 5) rfl w.heap.size rfl 26 (lyC l) (0, 0) _ (Bk.made w _ _) Try.underlying26 rfl (by kernel_rfl) ?_)
  (with_reducible refine (rfits_any l s r t b _ f (by omega)).mono ?_)
  rintro e w1 ⟨rfl, hb1⟩
  rw [HFT.out]
  have k0 := (Bk.made w 26 (lyC l)).keep hb1
  have hbl := below_tr (below_al (Below.refl w.heap.size w) (.cells (lyC l) 26)) hb1
  clear hb1
  go_wp2_with (refine wpList_load_rowG (by rfl) 26 (.tmp 5) rfl w.heap.size rfl 26 (lyC l) (0, 0) _ k0 Try.underlying26 rfl (by kernel_rfl) ?_)
  (with_reducible refine (rplace_any l s (r + 1) 0 _ f).mono ?_)
  rintro e w3 ⟨rfl, hb1⟩
  replace k0 := k0.keep hb1
  replace hbl := below_tr hbl hb1
  have e0 := k0.lt
  clear hb1
  go_wp2_with fail
  go_loopw [12, 13, 30, 31, 32, 33, 34, 35, 36, 37, 38, 39, 40, 41, 42, 43, 44, 45, 46, 47, 48, 49, 50, 51, 52, 53, 54, 55] (fun v i _ _ _ _ _ _ _ _ _ _ _ _ _ _ _ _ _ _ _ _ _ _ _ _ _ _ wr => MvRel w3 n F v i wr) (fun v i _ _ _ _ _ _ _ _ _ _ _ _ _ _ _ _ _ _ _ _ _ _ _ _ _ _ _ => n - (intOf i).toNat)
  case atStart => exact ⟨0, Nat.zero_le _, rfl, Below.refl _ _, World.ownsRow_nil _ _ _ _⟩
  case round =>
    obtain ⟨k, hk, rfl, hbw, hown⟩ := hrel
    by_cases hlt : k < n
    · have g0 : decide ((k : Int) < b - t) = true := by simp; omega
      replace k0 := k0.below hbw e0
      have HO := Lib.hid hown
      have HB := Lib.hid hbw
      clear hown hbw
      go_wp2_with fail
      have wa : IntKind.i64.wrap (t + (k : Int)) = t + k := IntWalk.i64_in _ (by omega)
      have wb : IntKind.i64.wrap (r + 1) = r + 1 := IntWalk.i64_in _ (by omega)
      refine wp_region_held_drew (S := fun w' => Bk w' w.heap.size 26 (lyC l)) (by kernel_rfl) k0.drew (fun hHeld => ?_)
      replace k0 := k0.drew
      replace HO := Lib.hid (show wr.drew.ownsRow _ _ _ _ _ _ from HO.out)
      replace HB := Lib.hid (HB.out.drew)
      clear hHeld
      generalize wr.drew = w4 at *
      refine wpAnyH_take (i := 0) (oi := _) (v := u12) rfl (by kernel_rfl) (by kernel_rfl) (by kernel_rfl) (fun _ _ _ h => h) (Or.inl ⟨by rfl, ?_⟩) k0 ?_
      · intro w' hSw
        (try simp only [List.getElem_toArray, List.getElem_cons_succ, List.getElem_cons_zero])
        go_simp
      (try simp only [List.getElem_toArray, List.getElem_cons_succ, List.getElem_cons_zero, Act.put, List.setIfInBounds_toArray, List.set_cons_zero, List.set_cons_succ])
      refine wpAnyH_take (i := 1) (oi := _) (v := .agg (lyC l)) rfl (by kernel_rfl) (by kernel_rfl) (by kernel_rfl) (fun _ _ _ h => h) (Or.inl ⟨by rfl, ?_⟩) k0 ?_
      · intro w' hSw
        (try simp only [List.getElem_toArray, List.getElem_cons_succ, List.getElem_cons_zero])
        simp only [execOp, Instr.loadAt, Instr.sureAddr, Sem.run_bind, Sem.run_pure, Result.andThen_ok]
        rw [show (Act.eval _ (Operand.tmp 5)) = Value.pointer (some ⟨w.heap.size, 0, none⟩) from rfl]
        simp only [Instr.loadAt, Instr.sureAddr, Sem.run_bind, Sem.run_pure, Result.andThen_ok, run_loadVar_row w' w.heap.size 26 26 (lyC l) (0, 0) _ hSw Try.underlying26 rfl (by kernel_rfl)]
      (try simp only [List.getElem_toArray, List.getElem_cons_succ, List.getElem_cons_zero, Act.put, List.setIfInBounds_toArray, List.set_cons_zero, List.set_cons_succ])
      refine wpAnyH_take (i := 2) (oi := _) (v := .int .i64 s) rfl (by kernel_rfl) (by kernel_rfl) (by kernel_rfl) (fun _ _ _ h => h) (Or.inl ⟨by rfl, ?_⟩) k0 ?_
      · intro w' hSw
        (try simp only [List.getElem_toArray, List.getElem_cons_succ, List.getElem_cons_zero])
        go_simp
      (try simp only [List.getElem_toArray, List.getElem_cons_succ, List.getElem_cons_zero, Act.put, List.setIfInBounds_toArray, List.set_cons_zero, List.set_cons_succ])
      refine wpAnyH_take (i := 3) (oi := _) (v := .int .i64 r) rfl (by kernel_rfl) (by kernel_rfl) (by kernel_rfl) (fun _ _ _ h => h) (Or.inl ⟨by rfl, ?_⟩) k0 ?_
      · intro w' hSw
        (try simp only [List.getElem_toArray, List.getElem_cons_succ, List.getElem_cons_zero])
        go_simp
      (try simp only [List.getElem_toArray, List.getElem_cons_succ, List.getElem_cons_zero, Act.put, List.setIfInBounds_toArray, List.set_cons_zero, List.set_cons_succ])
      refine wpAnyH_take (i := 4) (oi := _) (v := .int .i64 t) rfl (by kernel_rfl) (by kernel_rfl) (by kernel_rfl) (fun _ _ _ h => h) (Or.inl ⟨by rfl, ?_⟩) k0 ?_
      · intro w' hSw
        (try simp only [List.getElem_toArray, List.getElem_cons_succ, List.getElem_cons_zero])
        go_simp
      (try simp only [List.getElem_toArray, List.getElem_cons_succ, List.getElem_cons_zero, Act.put, List.setIfInBounds_toArray, List.set_cons_zero, List.set_cons_succ])
      refine wpAnyH_take (i := 5) (oi := _) (v := .int .i64 k) rfl (by kernel_rfl) (by kernel_rfl) (by kernel_rfl) (fun _ _ _ h => h) (Or.inl ⟨by rfl, ?_⟩) k0 ?_
      · intro w' hSw
        (try simp only [List.getElem_toArray, List.getElem_cons_succ, List.getElem_cons_zero])
        go_simp
      (try simp only [List.getElem_toArray, List.getElem_cons_succ, List.getElem_cons_zero, Act.put, List.setIfInBounds_toArray, List.set_cons_zero, List.set_cons_succ])
      refine wpAnyH_take (i := 6) (oi := _) (v := .int .i64 (t + k)) rfl (by kernel_rfl) (by kernel_rfl) (by kernel_rfl) (fun _ _ _ h => h) (Or.inl ⟨by rfl, ?_⟩) k0 ?_
      · intro w' hSw
        (try simp only [List.getElem_toArray, List.getElem_cons_succ, List.getElem_cons_zero])
        go_simp
      (try simp only [List.getElem_toArray, List.getElem_cons_succ, List.getElem_cons_zero, Act.put, List.setIfInBounds_toArray, List.set_cons_zero, List.set_cons_succ])
      refine wpAnyH_take (i := 8) (oi := _) (v := .agg (lyC l)) rfl (by kernel_rfl) (by kernel_rfl) (by kernel_rfl) (fun _ _ _ h => h) (Or.inl ⟨by rfl, ?_⟩) k0 ?_
      · intro w' hSw
        (try simp only [List.getElem_toArray, List.getElem_cons_succ, List.getElem_cons_zero])
        simp only [execOp, Instr.loadAt, Instr.sureAddr, Sem.run_bind, Sem.run_pure, Result.andThen_ok]
        rw [show (Act.eval _ (Operand.tmp 5)) = Value.pointer (some ⟨w.heap.size, 0, none⟩) from rfl]
        simp only [Instr.loadAt, Instr.sureAddr, Sem.run_bind, Sem.run_pure, Result.andThen_ok, run_loadVar_row w' w.heap.size 26 26 (lyC l) (0, 0) _ hSw Try.underlying26 rfl (by kernel_rfl)]
      (try simp only [List.getElem_toArray, List.getElem_cons_succ, List.getElem_cons_zero, Act.put, List.setIfInBounds_toArray, List.set_cons_zero, List.set_cons_succ])
      refine wpAnyH_take (i := 9) (oi := _) (v := .int .i64 s) rfl (by kernel_rfl) (by kernel_rfl) (by kernel_rfl) (fun _ _ _ h => h) (Or.inl ⟨by rfl, ?_⟩) k0 ?_
      · intro w' hSw
        (try simp only [List.getElem_toArray, List.getElem_cons_succ, List.getElem_cons_zero])
        go_simp
      (try simp only [List.getElem_toArray, List.getElem_cons_succ, List.getElem_cons_zero, Act.put, List.setIfInBounds_toArray, List.set_cons_zero, List.set_cons_succ])
      refine wpAnyH_take (i := 10) (oi := _) (v := .int .i64 r) rfl (by kernel_rfl) (by kernel_rfl) (by kernel_rfl) (fun _ _ _ h => h) (Or.inl ⟨by rfl, ?_⟩) k0 ?_
      · intro w' hSw
        (try simp only [List.getElem_toArray, List.getElem_cons_succ, List.getElem_cons_zero])
        go_simp
      (try simp only [List.getElem_toArray, List.getElem_cons_succ, List.getElem_cons_zero, Act.put, List.setIfInBounds_toArray, List.set_cons_zero, List.set_cons_succ])
      refine wpAnyH_take (i := 11) (oi := _) (v := .int .i64 (r + 1)) rfl (by kernel_rfl) (by kernel_rfl) (by kernel_rfl) (fun _ _ _ h => h) (Or.inl ⟨by rfl, ?_⟩) k0 ?_
      · intro w' hSw
        (try simp only [List.getElem_toArray, List.getElem_cons_succ, List.getElem_cons_zero])
        go_simp
      (try simp only [List.getElem_toArray, List.getElem_cons_succ, List.getElem_cons_zero, Act.put, List.setIfInBounds_toArray, List.set_cons_zero, List.set_cons_succ])
      refine wpAnyH_take (i := 12) (oi := _) (v := .int .i64 t) rfl (by kernel_rfl) (by kernel_rfl) (by kernel_rfl) (fun _ _ _ h => h) (Or.inl ⟨by rfl, ?_⟩) k0 ?_
      · intro w' hSw
        (try simp only [List.getElem_toArray, List.getElem_cons_succ, List.getElem_cons_zero])
        go_simp
      (try simp only [List.getElem_toArray, List.getElem_cons_succ, List.getElem_cons_zero, Act.put, List.setIfInBounds_toArray, List.set_cons_zero, List.set_cons_succ])
      refine wpAnyH_take (i := 13) (oi := _) (v := .int .i64 k) rfl (by kernel_rfl) (by kernel_rfl) (by kernel_rfl) (fun _ _ _ h => h) (Or.inl ⟨by rfl, ?_⟩) k0 ?_
      · intro w' hSw
        (try simp only [List.getElem_toArray, List.getElem_cons_succ, List.getElem_cons_zero])
        go_simp
      (try simp only [List.getElem_toArray, List.getElem_cons_succ, List.getElem_cons_zero, Act.put, List.setIfInBounds_toArray, List.set_cons_zero, List.set_cons_succ])
      refine wpAnyH_take (i := 14) (oi := _) (v := .int .i64 (t + k)) rfl (by kernel_rfl) (by kernel_rfl) (by kernel_rfl) (fun _ _ _ h => h) (Or.inl ⟨by rfl, ?_⟩) k0 ?_
      · intro w' hSw
        (try simp only [List.getElem_toArray, List.getElem_cons_succ, List.getElem_cons_zero])
        go_simp
      (try simp only [List.getElem_toArray, List.getElem_cons_succ, List.getElem_cons_zero, Act.put, List.setIfInBounds_toArray, List.set_cons_zero, List.set_cons_succ])
      refine wpAnyH_ready (rs := [7]) (by kernel_rfl) (by simp) ?_
      refine AllReadyH.cons (o := _) rfl (fun K hK => ?_) AllReadyH.nil
      (try simp only [List.getElem_toArray, List.getElem_cons_succ, List.getElem_cons_zero])
      go_simp
      (with_reducible refine (rplace_any l s r (t + k) _ f).mono ?_)
      rintro e w5 ⟨rfl, hb⟩
      replace k0 := k0.keep hb
      replace HO := Lib.hid (own_keepR HO.out hb)
      replace HB := Lib.hid (below_tr HB.out hb)
      refine hK.out _ _ k0 (fun hS' => ?_)
      clear hS' hK K hb
      (try simp only [List.getElem_toArray, List.getElem_cons_succ, List.getElem_cons_zero, Act.put, List.setIfInBounds_toArray, List.set_cons_zero, List.set_cons_succ])
      refine wpAnyH_ready (rs := [15]) (by kernel_rfl) (by simp) ?_
      refine AllReadyH.cons (o := _) rfl (fun K hK => ?_) AllReadyH.nil
      (try simp only [List.getElem_toArray, List.getElem_cons_succ, List.getElem_cons_zero])
      go_simp
      (with_reducible refine (rplace_any l s (r + 1) (t + k) _ f).mono ?_)
      rintro e w6 ⟨rfl, hb⟩
      replace k0 := k0.keep hb
      replace HO := Lib.hid (own_keepR HO.out hb)
      replace HB := Lib.hid (below_tr HB.out hb)
      refine hK.out _ _ k0 (fun hS' => ?_)
      clear hS' hK K hb
      (try simp only [List.getElem_toArray, List.getElem_cons_succ, List.getElem_cons_zero, Act.put, List.setIfInBounds_toArray, List.set_cons_zero, List.set_cons_succ])
      have hsn := pairs_snoc F k
      rw [HA.out k] at hsn
      dsimp only at hsn
      generalize placeAt l s r (t + (k : Int)) = x at *
      generalize placeAt l s (r + 1) (t + (k : Int)) = y at *
      have HS := Lib.hid hsn
      clear hsn
      refine wpAnyH_take (i := 16) (oi := _) (v := .agg #[.int .i64 x, .int .i64 y]) rfl (by kernel_rfl) (by kernel_rfl) (by kernel_rfl) (fun _ _ _ h => h) (Or.inl ⟨by rfl, ?_⟩) k0 ?_
      · intro w' hSw
        (try simp only [List.getElem_toArray, List.getElem_cons_succ, List.getElem_cons_zero])
        go_simp
      (try simp only [List.getElem_toArray, List.getElem_cons_succ, List.getElem_cons_zero, Act.put, List.setIfInBounds_toArray, List.set_cons_zero, List.set_cons_succ])
      refine wpAnyH_ready (rs := [17]) (by kernel_rfl) (by simp) ?_
      refine AllReadyH.cons (o := _) rfl (fun K hK => ?_) AllReadyH.nil
      (try simp only [List.getElem_toArray, List.getElem_cons_succ, List.getElem_cons_zero])
      go_simp
      have k1 := k0.alloc (.cells #[.int .i64 x, .int .i64 y] 47)
      refine hK.out _ _ k1 (fun hS' => ?_)
      clear hS' hK K
      (try simp only [List.getElem_toArray, List.getElem_cons_succ, List.getElem_cons_zero, Act.put, List.setIfInBounds_toArray, List.set_cons_zero, List.set_cons_succ])
      have hrow := World.ownsRow.alloc HO.out (.cells #[.int .i64 x, .int .i64 y] 47)
      have hsz := HB.out.size
      refine wpAnyH_ready (rs := [18]) (by kernel_rfl) (by simp) ?_
      refine AllReadyH.cons (o := _) rfl (fun K hK => ?_) AllReadyH.nil
      rw [if_pos (by rfl)]
      refine wp_append_at (.tmp 37) (.tmp 54) 31 rfl w3.heap.size 47 i0 _ 2 16 Try.underlying31 hi0 hz0 hz1 hz2 rfl (by omega) u12 k _ rfl hrow ⟨w6.heap.size, 0, none⟩ 1 1 [.int .i64 x, .int .i64 y] rfl rfl (two_news w6 x y) (two_one x y) (by simp only [maxLen]; omega) (by omega) (by simp; omega) ?_
      intro v9 w7 hrow7 hgrow7
      have k2 := Bk.grownX k1 hgrow7 (fun e => by have := (World.ownsRow.lt hrow _ e.symm).1; omega)
      refine hK.out _ _ k2 (fun hS' => ?_)
      clear hS' hK K
      (try simp only [List.getElem_toArray, List.getElem_cons_succ, List.getElem_cons_zero, Act.put, List.setIfInBounds_toArray, List.set_cons_zero, List.set_cons_succ])
      refine wpAnyH_take (i := 19) (oi := _) (v := v9) rfl (by kernel_rfl) (by kernel_rfl) (by kernel_rfl) (fun _ _ _ h => h) (Or.inl ⟨by rfl, ?_⟩) k2 ?_
      · intro w' hSw
        (try simp only [List.getElem_toArray, List.getElem_cons_succ, List.getElem_cons_zero])
        go_simp
      (try simp only [List.getElem_toArray, List.getElem_cons_succ, List.getElem_cons_zero, Act.put, List.setIfInBounds_toArray, List.set_cons_zero, List.set_cons_succ])
      refine wpAnyH_done (by kernel_rfl) ?_ _
      go_wp2
      go_roundw
      case rel =>
        refine ⟨k + 1, by omega, by go_num, ?_, ?_⟩
        · exact (below_al HB.out _).grown hgrow7 (by simp; omega) (fun j hj => by have := (World.ownsRow.lt hrow _ hj).1; omega)
        · rw [HS.out]
          exact hrow7
      case measure => simp [intOf]; omega
    · obtain rfl : k = n := by omega
      have g0 : decide ((k : Int) < b - t) = false := by simp; omega
      have HO := Lib.hid hown
      have HB := Lib.hid hbw
      clear hown hbw
      go_wp2
      go_ret
      obtain ⟨G, cap, rfl⟩ := own_slice' HO.out
      refine ⟨G, cap, by simp, ?_, below_tr hbl HB.out⟩
      have := own_low HO.out hbl.size
      simpa [OwnPairs] using this
end Go.Proofs.Ytekibkfpamfmoaa
