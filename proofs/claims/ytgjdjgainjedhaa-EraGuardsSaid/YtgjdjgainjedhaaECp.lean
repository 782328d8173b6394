/- EraCounts: what a program does alone, in numbers. No program in sight. -/
import Derived.Test.YtgjdjgainjedhaaEAl
import Derived.Test.YtgjdjgainjedhaaEOp
namespace Go.Proofs.Ytgjdjgainjedhaa
open Go.RowKit
set_option linter.unusedVariables false
section
variable {l : Ly} {me : Int} {gone : Gone} {op : Opr} {m : List Int}
theorem al_succ {k : Nat} {mk : List Int} {log : Log} {a c o v : Int} (hk : aloneS l me gone op m k = (mk, log)) (h : eraR l me op gone log = .ask a c o v) :
    aloneS l me gone op m (k + 1) = ((⟨a, c, o, v⟩ : Acc).make mk, log ++ [((⟨a, c, o, v⟩ : Acc).had mk, (⟨a, c, o, v⟩ : Acc).ok ((⟨a, c, o, v⟩ : Acc).had mk))]) := by
  rw [aloneS, hk]
  dsimp only
  rw [h]
/-- A run, by its states. -/
theorem ARun.of_steps {K : Nat} {val : Int} {is : Bool} {err pt : Int} {g : Gone} (st : Nat → List Int × Log) (acc : Nat → Acc) (hs : ∀ k, k ≤ K → aloneS l me gone op m k = st k) (ha : ∀ k, k < K → eraR l me op gone (st k).2 = .ask (acc k).kind (acc k).cell (acc k).old (acc k).new ∧ (acc k).err (st k).1.length = 0)
    (ho : eraR l me op gone (st K).2 = .out val is err pt g) (hK : K ≤ 400) : ARun l me gone op m K val is err pt g := by
  refine ⟨fun k hk => ⟨(acc k).kind, (acc k).cell, (acc k).old, (acc k).new, ?_, ?_⟩, ?_, hK⟩
  · rw [hs k (by omega)]; exact (ha k hk).1
  · rw [hs k (by omega)]; exact (ha k hk).2
  · rw [hs K (Nat.le_refl _)]; exact ho
theorem eraR_eq (log : Log) {q : EPh} (h : ePh l op gone log = q) : eraR l me op gone log = q.ans l me op gone := by rw [eraR, h]
/-- A guard alone. -/
theorem guard_run {s b : Int} {sz ρ : Nat} {e : Int} (hs : 0 ≤ s ∧ s < 3) (hb : 0 ≤ b ∧ b < l.size) (hz : l.size = sz) (hm : m.length = sz) (he : 0 ≤ l.era ∧ l.era < sz) (hr : resvAt l me s = ρ ∧ ρ < sz) (hne : (ρ : Int) ≠ l.era) (hev : m.getD l.era.toNat 0 = e) (h1 : 1 ≤ e) :
    ARun l me [] ⟨1, 0, s, b⟩ m 5 ((m.set ρ e).getD b.toNat 0) true 0 3 [] ∧ (aloneS l me [] ⟨1, 0, s, b⟩ m 5).1 = m.set ρ e := by
  obtain ⟨v0, hv0⟩ : ∃ z, m.getD b.toNat 0 = z := ⟨_, rfl⟩
  obtain ⟨v1, hv1⟩ : ∃ z, (m.set ρ e).getD b.toNat 0 = z := ⟨_, rfl⟩
  have hev2 : (m.set ρ e).getD l.era.toNat 0 = e := by rw [set_at (by omega), if_neg (by omega)]; exact hev
  have p0 : ePh l ⟨1, 0, s, b⟩ [] [] = .gu 0 0 := by simp [ePh, startE, mayE, hs.1, hs.2, hb.1, hb.2]
  have p1 : ePh l ⟨1, 0, s, b⟩ [] ([] ++ [(v0, true)]) = .gv 1 0 v0 := by rw [ePh_snoc, p0]; rfl
  have p2 : ePh l ⟨1, 0, s, b⟩ [] ([] ++ [(v0, true)] ++ [(e, true)]) = .gs 2 e := by rw [ePh_snoc, p1]; simp only [EPh.add]; rw [if_neg (by omega)]
  have p3 : ePh l ⟨1, 0, s, b⟩ [] ([] ++ [(v0, true)] ++ [(e, true)] ++ [((⟨2, (ρ : Int), 0, e⟩ : Acc).had m, true)]) = .gu 3 e := by rw [ePh_snoc, p2]; rfl
  have p4 : ePh l ⟨1, 0, s, b⟩ [] ([] ++ [(v0, true)] ++ [(e, true)] ++ [((⟨2, (ρ : Int), 0, e⟩ : Acc).had m, true)] ++ [(v1, true)]) = .gv 4 e v1 := by rw [ePh_snoc, p3]; rfl
  have p5 : ePh l ⟨1, 0, s, b⟩ [] ([] ++ [(v0, true)] ++ [(e, true)] ++ [((⟨2, (ρ : Int), 0, e⟩ : Acc).had m, true)] ++ [(v1, true)] ++ [(e, true)]) = .gz v1 3 := by rw [ePh_snoc, p4]; simp [EPh.add]
  have e0 := eraR_eq (me := me) _ p0
  have e1 := eraR_eq (me := me) _ p1
  have e2 := eraR_eq (me := me) _ p2
  have e3 := eraR_eq (me := me) _ p3
  have e4 := eraR_eq (me := me) _ p4
  have e5 := eraR_eq (me := me) _ p5
  simp only [EPh.ans] at e0 e1 e2 e3 e4 e5
  rw [hr.1] at e2
  have a0 : aloneS l me [] ⟨1, 0, s, b⟩ m 0 = (m, []) := rfl
  have a1 := al_succ a0 e0
  obtain ⟨f1, f2, f3⟩ := acc_load (c := b) (m := m)
  rw [f1, f2, f3, hv0] at a1
  have a2 := al_succ a1 e1
  obtain ⟨f1, f2, f3⟩ := acc_load (c := l.era) (m := m)
  rw [f1, f2, f3, hev] at a2
  have a3 := al_succ a2 e2
  obtain ⟨f1, f2⟩ := acc_store (c := (ρ : Int)) (v := e) (m := m)
  rw [f1, f2, Int.toNat_natCast] at a3
  have a4 := al_succ a3 e3
  obtain ⟨f1, f2, f3⟩ := acc_load (c := b) (m := m.set ρ e)
  rw [f1, f2, f3, hv1] at a4
  have a5 := al_succ a4 e4
  obtain ⟨f1, f2, f3⟩ := acc_load (c := l.era) (m := m.set ρ e)
  rw [f1, f2, f3, hev2] at a5
  have ms : (m.set ρ e).length = sz := by simp [hm]
  rw [hv1]
  refine ⟨⟨fun k hk => ?_, ?_, by omega⟩, by rw [a5]⟩
  · have hc : k = 0 ∨ k = 1 ∨ k = 2 ∨ k = 3 ∨ k = 4 := by omega
    rcases hc with rfl | rfl | rfl | rfl | rfl
    · exact ⟨1, b, 0, 0, by rw [a0]; exact e0, by rw [a0]; exact acc_err (by rw [hm]; omega) (.inl ⟨rfl, rfl, rfl⟩)⟩
    · exact ⟨1, l.era, 0, 0, by rw [a1]; exact e1, by rw [a1]; exact acc_err (by rw [hm]; omega) (.inl ⟨rfl, rfl, rfl⟩)⟩
    · exact ⟨2, ρ, 0, e, by rw [a2]; exact e2, by rw [a2]; exact acc_err (by rw [hm]; omega) (.inr (.inl ⟨rfl, rfl⟩))⟩
    · exact ⟨1, b, 0, 0, by rw [a3]; exact e3, by rw [a3]; exact acc_err (by rw [ms]; omega) (.inl ⟨rfl, rfl, rfl⟩)⟩
    · exact ⟨1, l.era, 0, 0, by rw [a4]; exact e4, by rw [a4]; exact acc_err (by rw [ms]; omega) (.inl ⟨rfl, rfl, rfl⟩)⟩
  · rw [a5]; exact e5
/-- A drop alone. -/
theorem drop_run {sz : Nat} (ρ : Nat → Nat) (hm : m.length = sz) (hr : ∀ i, i < 3 → resvAt l me (i : Nat) = ρ i ∧ ρ i < sz) :
    ARun l me [] ⟨2, 0, 0, 0⟩ m 3 0 true 0 2 [] ∧ (aloneS l me [] ⟨2, 0, 0, 0⟩ m 3).1 = ((m.set (ρ 0) 0).set (ρ 1) 0).set (ρ 2) 0 := by
  obtain ⟨m1, hm1⟩ : ∃ z, m.set (ρ 0) 0 = z := ⟨_, rfl⟩
  obtain ⟨m2, hm2⟩ : ∃ z, m1.set (ρ 1) 0 = z := ⟨_, rfl⟩
  obtain ⟨m3, hm3⟩ : ∃ z, m2.set (ρ 2) 0 = z := ⟨_, rfl⟩
  have l1 : m1.length = sz := by rw [← hm1]; simp [hm]
  have l2 : m2.length = sz := by rw [← hm2]; simp [l1]
  have p0 : ePh l ⟨2, 0, 0, 0⟩ [] [] = .dr 0 := start_d l []
  have hp : ∀ (log : Log) (i : Nat) (r : Int × Bool), i < 3 → ePh l ⟨2, 0, 0, 0⟩ [] log = .dr i → ePh l ⟨2, 0, 0, 0⟩ [] (log ++ [r]) = .dr (i + 1) := fun log i r hi h => by rw [ePh_snoc, h]; simp only [EPh.add]; rw [if_pos hi]
  have he : ∀ (log : Log) (i : Nat), i < 3 → ePh l ⟨2, 0, 0, 0⟩ [] log = .dr i → eraR l me ⟨2, 0, 0, 0⟩ [] log = .ask 2 (ρ i) 0 0 := fun log i hi h => by rw [eraR_eq _ h]; simp only [EPh.ans]; rw [if_pos hi, (hr i hi).1]
  have a0 : aloneS l me [] ⟨2, 0, 0, 0⟩ m 0 = (m, []) := rfl
  have e0 := he [] 0 (by omega) p0
  have a1 := al_succ a0 e0
  obtain ⟨f1, f2⟩ := acc_store (c := (ρ 0 : Int)) (v := 0) (m := m)
  rw [f1, Int.toNat_natCast, hm1] at a1
  have p1 := hp _ 0 (((⟨2, (ρ 0 : Int), 0, 0⟩ : Acc).had m), ((⟨2, (ρ 0 : Int), 0, 0⟩ : Acc).ok ((⟨2, (ρ 0 : Int), 0, 0⟩ : Acc).had m))) (by omega) p0
  have e1 := he _ 1 (by omega) p1
  have a2 := al_succ a1 e1
  obtain ⟨f1, f2⟩ := acc_store (c := (ρ 1 : Int)) (v := 0) (m := m1)
  rw [f1, Int.toNat_natCast, hm2] at a2
  have p2 := hp _ 1 (((⟨2, (ρ 1 : Int), 0, 0⟩ : Acc).had m1), ((⟨2, (ρ 1 : Int), 0, 0⟩ : Acc).ok ((⟨2, (ρ 1 : Int), 0, 0⟩ : Acc).had m1))) (by omega) p1
  have e2 := he _ 2 (by omega) p2
  have a3 := al_succ a2 e2
  obtain ⟨f1, f2⟩ := acc_store (c := (ρ 2 : Int)) (v := 0) (m := m2)
  rw [f1, Int.toNat_natCast, hm3] at a3
  have p3 := hp _ 2 (((⟨2, (ρ 2 : Int), 0, 0⟩ : Acc).had m2), ((⟨2, (ρ 2 : Int), 0, 0⟩ : Acc).ok ((⟨2, (ρ 2 : Int), 0, 0⟩ : Acc).had m2))) (by omega) p2
  rw [hm1, hm2, hm3]
  have r0 := (hr 0 (by omega)).2
  have r1 := (hr 1 (by omega)).2
  have r2 := (hr 2 (by omega)).2
  refine ⟨⟨fun k hk => ?_, ?_, by omega⟩, by rw [a3]⟩
  · have hc : k = 0 ∨ k = 1 ∨ k = 2 := by omega
    rcases hc with rfl | rfl | rfl
    · exact ⟨2, _, 0, 0, by rw [a0]; exact e0, by rw [a0]; exact acc_err (by rw [hm]; omega) (.inr (.inl ⟨rfl, rfl⟩))⟩
    · exact ⟨2, _, 0, 0, by rw [a1]; exact e1, by rw [a1]; exact acc_err (by rw [l1]; omega) (.inr (.inl ⟨rfl, rfl⟩))⟩
    · exact ⟨2, _, 0, 0, by rw [a2]; exact e2, by rw [a2]; exact acc_err (by rw [l2]; omega) (.inr (.inl ⟨rfl, rfl⟩))⟩
  · rw [a3, eraR_eq _ p3]
    simp only [EPh.ans]
    rw [if_neg (by omega)]
/-- A retire alone, with little gone. -/
theorem retire_run {x e : Int} {sz : Nat} (hx : 1 ≤ x ∧ x ≤ l.c.nodes) (hm : m.length = sz) (he : 0 ≤ l.era ∧ l.era < sz) (hev : m.getD l.era.toNat 0 = e) (h1 : 0 ≤ e ∧ e < 1000000) (hg : ((gone.length + 1 : Nat) : Int) < 2 * l.c.seats) :
    ARun l me gone ⟨3, 0, x, 0⟩ m 2 0 true 0 1 (gone ++ [(x, e)]) ∧ (aloneS l me gone ⟨3, 0, x, 0⟩ m 2).1 = m.set l.era.toNat (e + 1) := by
  have p0 : ePh l ⟨3, 0, x, 0⟩ gone [] = .r0 := start_r l hx gone
  have p1 : ePh l ⟨3, 0, x, 0⟩ gone ([] ++ [(e, true)]) = .r1 e := by rw [ePh_snoc, p0]; rfl
  have p2 : ∀ r, ePh l ⟨3, 0, x, 0⟩ gone ([] ++ [(e, true)] ++ [r]) = .rz (gone ++ [(x, e)]) := fun r => by
    rw [ePh_snoc, p1]
    simp only [EPh.add, List.length_append, List.length_singleton]
    rw [if_neg (by omega)]
  have e0 := eraR_eq (me := me) _ p0
  have e1 := eraR_eq (me := me) _ p1
  simp only [EPh.ans] at e0 e1
  have a0 : aloneS l me gone ⟨3, 0, x, 0⟩ m 0 = (m, []) := rfl
  have a1 := al_succ a0 e0
  obtain ⟨f1, f2, f3⟩ := acc_load (c := l.era) (m := m)
  rw [f1, f2, f3, hev] at a1
  have a2 := al_succ a1 e1
  obtain ⟨f1, f2, f3⟩ := acc_add (c := l.era) (v := 1) (m := m)
  rw [f1, hev, wrapE_in (by omega) (by omega)] at a2
  refine ⟨⟨fun k hk => ?_, ?_, by omega⟩, by rw [a2]⟩
  · have hc : k = 0 ∨ k = 1 := by omega
    rcases hc with rfl | rfl
    · exact ⟨1, l.era, 0, 0, by rw [a0]; exact e0, by rw [a0]; exact acc_err (by rw [hm]; omega) (.inl ⟨rfl, rfl, rfl⟩)⟩
    · exact ⟨4, l.era, 0, 1, by rw [a1]; exact e1, by rw [a1]; exact acc_err5 (by rw [hm]; omega) ⟨.inl rfl, rfl⟩⟩
  · rw [a2, eraR_eq _ (p2 _)]
    rfl
end
section
open Go.ChangeShapes Go.WideShapes Go.ChangeAt Go.Joins Go.Deep
variable {H : Type} {enc : TypeId × Value → H} {W : World} {base b0 : Nat} {v : Value} {d : DataW H} {p : List MemPlace}
set_option maxRecDepth 100000 in
theorem o_counts (hv : Value.okWide Try.prog W .any base 72 v) (h : DataW.Trod enc Try.prog W 0 (fun _ => true) true 72 v d p) :
    ∃ (N S C X : Int), v = .agg #[.int .u16 N, .int .u8 S, .int .u8 C, .int .u8 X] ∧ (0 ≤ N ∧ N < 65536) ∧ (0 ≤ S ∧ S < 256) ∧ (0 ≤ C ∧ C < 256) ∧ (0 ≤ X ∧ X < 256) := by
  obtain ⟨cs, rfl, hsz⟩ := okWide_struct Try.underlying72 hv
  obtain ⟨fuel, hf⟩ := h
  have hc : Try.prog.cellsOf 72 = 4 := by kernel_rfl
  have hf' : DataW.trod enc Try.prog W 0 (fun _ => true) true fuel 72 cs.toList = some (d, p) := by simpa [Value.cells] using hf
  obtain ⟨N, h0, w0⟩ := fld_int Try.underlying72 (by kernel_rfl) (by kernel_rfl) hf' 0 _ rfl Try.underlying53
  obtain ⟨S, h1, w1⟩ := fld_int Try.underlying72 (by kernel_rfl) (by kernel_rfl) hf' 1 _ rfl Try.underlying5
  obtain ⟨C, h2, w2⟩ := fld_int Try.underlying72 (by kernel_rfl) (by kernel_rfl) hf' 2 _ rfl Try.underlying5
  obtain ⟨X, h3, w3⟩ := fld_int Try.underlying72 (by kernel_rfl) (by kernel_rfl) hf' 3 _ rfl Try.underlying5
  have b0 := bounds_u16 w0
  have b1 := bounds_u8 w1
  have b2 := bounds_u8 w2
  have b3 := bounds_u8 w3
  exact ⟨N, S, C, X, by rw [← Array.toArray_toList (xs := cs), arr4 (by simp [hsz, hc]) h0 h1 h2 h3], by omega, by omega, by omega, by omega⟩
end
end Go.Proofs.Ytgjdjgainjedhaa
