/- Regions that draw their order: a list of operations that make memory alone and do not look at each other: whatever comes first. -/
import Derived.Test.YtgjdjgainjedhaaReg
namespace Go.Proofs.Ytgjdjgainjedhaa
open Go.RowKit
set_option linter.unusedVariables false
section
variable {P : Program} {ops : Array Oper} {Q : Exit → Act → World → Prop} {md : Region.Mode} {S : World → Prop} {E : Nat → Bool}
def actOf (tmp : Nat → Nat) (val : Nat → Option Value) : List Nat → Act → Act
  | [], a => a
  | i :: U, a => actOf tmp val U (match val i with | some v => a.put (some (tmp i)) v | none => a)
def lstOf (d : Nat → Bool) : List Nat → Array Bool → Array Bool
  | [], l => l
  | i :: U, l => lstOf d U (if d i then l.setIfInBounds i true else l)
def upd (val : Nat → Option Value) (i : Nat) (v : Value) : Nat → Option Value := fun j => if j = i then some v else val j
theorem put_comm' (a : Act) (x y : Nat) (v u : Value) (hne : x ≠ y) : (a.put (some x) v).put (some y) u = (a.put (some y) u).put (some x) v := Act.put_comm a v u (fun d hd hd' => by injection hd with hd; injection hd' with hd'; omega)
theorem actOf_put {tmp : Nat → Nat} {val : Nat → Option Value} {t : Nat} {v : Value} : ∀ (U : List Nat) (a : Act), (∀ i ∈ U, tmp i ≠ t) → (actOf tmp val U a).put (some t) v = actOf tmp val U (a.put (some t) v) := by
  intro U
  induction U with
  | nil => intro a _; rfl
  | cons i U ih =>
    intro a h
    simp only [actOf]
    rw [ih _ (fun j hj => h j (by simp [hj]))]
    congr 1
    cases val i with
    | none => rfl
    | some u => exact put_comm' a (tmp i) t u v (h i (by simp))
theorem actOf_congr {tmp : Nat → Nat} {val val' : Nat → Option Value} : ∀ (U : List Nat) (a : Act), (∀ i ∈ U, val i = val' i) → actOf tmp val U a = actOf tmp val' U a := by
  intro U
  induction U with
  | nil => intro a _; rfl
  | cons i U ih => intro a h; simp only [actOf]; rw [h i (by simp)]; exact ih _ (fun j hj => h j (by simp [hj]))
theorem actOf_upd {tmp : Nat → Nat} {val : Nat → Option Value} {i : Nat} {v : Value} : ∀ (U : List Nat) (a : Act), U.Nodup → (∀ j ∈ U, j ≠ i → tmp j ≠ tmp i) → i ∈ U → val i = none → (actOf tmp val U a).put (some (tmp i)) v = actOf tmp (upd val i v) U a := by
  intro U
  induction U with
  | nil => intro a _ _ hi; cases hi
  | cons k U ih =>
    intro a hnd hne hi hv
    obtain ⟨hk, hnd⟩ := List.nodup_cons.1 hnd
    by_cases e : k = i
    · subst e
      simp only [actOf, hv]
      rw [actOf_put U a (fun j hj => hne j (by simp [hj]) (fun e => hk (e ▸ hj)))]
      rw [show upd val k v k = some v from by simp [upd]]
      exact actOf_congr U _ (fun j hj => by simp [upd, show j ≠ k from fun e => hk (e ▸ hj)])
    · have hi' : i ∈ U := by rcases List.mem_cons.1 hi with h | h; exact absurd h.symm e; exact h
      simp only [actOf]
      rw [ih _ hnd (fun j hj => hne j (by simp [hj])) hi' hv, show upd val i v k = val k from by simp [upd, e]]
theorem lstOf_set {d : Nat → Bool} {i : Nat} : ∀ (U : List Nat) (l : Array Bool), (∀ j ∈ U, j ≠ i) → (lstOf d U l).setIfInBounds i true = lstOf d U (l.setIfInBounds i true) := by
  intro U
  induction U with
  | nil => intro l _; rfl
  | cons k U ih =>
    intro l h
    simp only [lstOf]
    rw [ih _ (fun j hj => h j (by simp [hj]))]
    congr 1
    split
    · exact Array.setIfInBounds_comm _ _ (h k (by simp))
    · rfl
theorem lstOf_congr {d d' : Nat → Bool} : ∀ (U : List Nat) (l : Array Bool), (∀ i ∈ U, d i = d' i) → lstOf d U l = lstOf d' U l := by
  intro U
  induction U with
  | nil => intro l _; rfl
  | cons i U ih => intro l h; simp only [lstOf]; rw [h i (by simp)]; exact ih _ (fun j hj => h j (by simp [hj]))
theorem lstOf_upd {d : Nat → Bool} {i : Nat} : ∀ (U : List Nat) (l : Array Bool), U.Nodup → i ∈ U → d i = false → (lstOf d U l).setIfInBounds i true = lstOf (fun j => j == i || d j) U l := by
  intro U
  induction U with
  | nil => intro l _ hi; cases hi
  | cons k U ih =>
    intro l hnd hi hd
    obtain ⟨hk, hnd⟩ := List.nodup_cons.1 hnd
    by_cases e : k = i
    · subst e
      simp only [lstOf, hd]
      rw [if_neg (by simp), lstOf_set (i := k) U l (fun j hj (e : j = k) => hk (e ▸ hj)), if_pos (by simp)]
      exact lstOf_congr U _ (fun j hj => by simp [show j ≠ k from fun e => hk (e ▸ hj)])
    · have hi' : i ∈ U := by rcases List.mem_cons.1 hi with h | h; exact absurd h.symm e; exact h
      simp only [lstOf]
      rw [ih _ hnd hi' hd]
      congr 1
      simp [e]
/-- **Operations U that make memory alone**, in whatever order. -/
theorem wpAnyE_set {listed : Array Bool} {a : Act} {w : World} (U : List Nat) (tmp : Nat → Nat) (R : Nat → Value → World → Prop) (hnd : U.Nodup) (hinj : ∀ i ∈ U, ∀ j ∈ U, j ≠ i → tmp j ≠ tmp i)
    (hr : ∀ d : Nat → Bool, (∃ i ∈ U, d i = false) → Region.ready md ops (lstOf d U listed) = U.filter fun i => !d i)
    (hR : ∀ i v w1 w2, Below w1.heap.size w1 w2 → R i v w1 → R i v w2) (hSk : ∀ w1, Below w.heap.size w w1 → S w1)
    (hop : ∀ i ∈ U, ∃ o, ops[i]? = some o ∧ o.guard = none ∧ ∀ (val : Nat → Option Value) (w1 : World) (K : Act → World → Prop), Below w.heap.size w w1 → (∀ v w2, R i v w2 → Below w1.heap.size w1 w2 → K ((actOf tmp val U a).put (some (tmp i)) v) w2) → o.wp P (actOf tmp val U a) w1 K Q)
    (fuel : Nat) (h : ∀ val w', (∀ i ∈ U, ∃ v, val i = some v ∧ R i v w') → Below w.heap.size w w' → wpAnyE P md ops Q S E fuel (lstOf (fun i => (val i).isSome) U listed) (actOf tmp val U a) w') :
    ∀ (k : Nat) (val : Nat → Option Value) (w1 : World), (U.filter fun i => (val i).isNone).length = k → Below w.heap.size w w1 → (∀ i ∈ U, ∀ v, val i = some v → R i v w1) → wpAnyE P md ops Q S E (fuel + k) (lstOf (fun i => (val i).isSome) U listed) (actOf tmp val U a) w1 := by
  intro k
  induction k with
  | zero =>
    intro val w1 hk hb hv
    refine h val w1 (fun i hi => ?_) hb
    cases e : val i with
    | some v => exact ⟨v, rfl, hv i hi v e⟩
    | none =>
      have := List.length_eq_zero_iff.1 hk
      have hm : i ∈ U.filter fun i => (val i).isNone := List.mem_filter.2 ⟨hi, by simp [e]⟩
      rw [this] at hm
      cases hm
  | succ k ih =>
    intro val w1 hk hb hv
    have hex : ∃ i ∈ U, (fun i => (val i).isSome) i = false := by
      have hpos : 0 < (U.filter fun i => (val i).isNone).length := by omega
      obtain ⟨i, hi⟩ := List.exists_mem_of_length_pos hpos
      obtain ⟨h1, h2⟩ := List.mem_filter.1 hi
      exact ⟨i, h1, by cases e : val i <;> simp_all⟩
    have hrd := hr _ hex
    refine ⟨fun h0 => ?_, fun i hi => ?_⟩
    · rw [hrd] at h0
      obtain ⟨i, h1, h2⟩ := hex
      have hm : i ∈ U.filter fun i => !(val i).isSome := List.mem_filter.2 ⟨h1, by simpa using h2⟩
      rw [h0] at hm
      cases hm
    · rw [hrd] at hi
      obtain ⟨h1, h2⟩ := List.mem_filter.1 hi
      have hvn : val i = none := by cases e : val i <;> simp_all
      obtain ⟨o, ho, hg, hw⟩ := hop i h1
      refine wpOp_of ho hg (hw val w1 _ hb fun v w2 hRv hb2 => ?_)
      have hb3 := below_tr hb hb2
      refine ⟨fun _ _ => hSk _ hb3, ?_⟩
      rw [actOf_upd U a hnd (fun j hj hne => hinj i h1 j hj hne) h1 hvn, lstOf_upd U listed hnd h1 (by simp [hvn])]
      have hl : lstOf (fun j => j == i || (val j).isSome) U listed = lstOf (fun j => (upd val i v j).isSome) U listed := lstOf_congr U _ (fun j _ => by by_cases e : j = i <;> simp [upd, e])
      rw [hl]
      refine ih (upd val i v) w2 ?_ hb3 (fun j hj u hu => ?_)
      · have hcount : ∀ (U : List Nat), U.Nodup → i ∈ U → (U.filter fun j => (upd val i v j).isNone).length + 1 = (U.filter fun j => (val j).isNone).length := by
          intro U
          induction U with
          | nil => intro _ hi; cases hi
          | cons c U ih2 =>
            intro hnd hi
            obtain ⟨hc, hnd⟩ := List.nodup_cons.1 hnd
            by_cases e : c = i
            · subst e
              have hs : U.filter (fun j => (upd val c v j).isNone) = U.filter (fun j => (val j).isNone) := List.filter_congr (fun j hj => by simp [upd, show j ≠ c from fun e => hc (e ▸ hj)])
              simp [upd, hvn]
              rw [← hs]
              rfl
            · have hi' : i ∈ U := by rcases List.mem_cons.1 hi with h | h; exact absurd h.symm e; exact h
              have := ih2 hnd hi'
              simp only [List.filter_cons, show upd val i v c = val c from by simp [upd, e]]
              split <;> simp_all
        have := hcount U hnd h1
        omega
      · by_cases e : j = i
        · subst e
          rw [show upd val j v j = some v from by simp [upd]] at hu
          injection hu with hu
          subst hu
          exact hRv
        · rw [show upd val i v j = val j from by simp [upd, e]] at hu
          exact hR j u w1 w2 hb2 (hv j hj u hu)
end
end Go.Proofs.Ytgjdjgainjedhaa
