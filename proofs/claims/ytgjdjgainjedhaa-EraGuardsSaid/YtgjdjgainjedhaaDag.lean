/- Regions that draw their order: a set U of operations (calls, allocs, what is read of them), each waiting for some of the others, in whatever order they come: a law once for all. -/
import Derived.Test.YtgjdjgainjedhaaReg3
namespace Go.Proofs.Ytgjdjgainjedhaa
open Go.RowKit
set_option linter.unusedVariables false
section
variable {P : Program} {ops : Array Oper} {Q : Exit → Act → World → Prop} {md : Region.Mode} {S : World → Prop} {E : Nat → Bool}
/-- An operation run in another act that reads the same. -/
theorem wp_transfer {o : Oper} (hs : ∀ cs b, o.op ≠ .select cs b) {a a' : Act} (he : ∀ x ∈ o.op.operands, a'.eval x = a.eval x) {w : World} {Rv : Value → World → Prop} (hb : ∀ t, o.dst = some t → t < a.tmps.size)
    (h : o.wp P a w (fun b w2 => ∃ v, b = a.put o.dst v ∧ Rv v w2) (fun _ _ _ => False)) {K : Act → World → Prop} {Q : Exit → Act → World → Prop} (hK : ∀ v w2, Rv v w2 → K (a'.put o.dst v) w2) : o.wp P a' w K Q := by
  unfold Oper.wp at *
  rw [execOp_congr o hs he]
  have undefd : ∀ v, a.put o.dst undef = a.put o.dst v → a'.put o.dst undef = a'.put o.dst v := by
    intro v hv
    cases hd : o.dst with
    | none => rfl
    | some t =>
      rw [hd] at hv
      have hlt := hb t hd
      have : (a.put (some t) undef).tmps[t]? = (a.put (some t) v).tmps[t]? := by rw [hv]
      simp only [Act.put] at this
      rw [Array.getElem?_setIfInBounds_self_of_lt hlt, Array.getElem?_setIfInBounds_self_of_lt hlt] at this
      injection this with this
      rw [this]
  generalize (execOp a.eval o).run P w = r at *
  cases r with
  | ok n w' =>
    cases n <;> simp only [Oper.upon] at h ⊢
    case value u =>
      obtain ⟨v, hv, hR⟩ := h
      cases hd : o.dst with
      | none => rw [hd] at hK; exact hK v _ hR
      | some t =>
        rw [hd] at hv hK
        have hlt := hb t hd
        have : (a.put (some t) u).tmps[t]? = (a.put (some t) v).tmps[t]? := by rw [hv]
        simp only [Act.put] at this
        rw [Array.getElem?_setIfInBounds_self_of_lt hlt, Array.getElem?_setIfInBounds_self_of_lt hlt] at this
        injection this with this
        rw [this]
        exact hK v _ hR
    case skip =>
      obtain ⟨v, hv, hR⟩ := h
      rw [undefd v hv]
      exact hK v _ hR
    case defer d =>
      obtain ⟨v, hv, hR⟩ := h
      have : (({ a with defers := d :: a.defers } : Act).put o.dst undef).defers = (a.put o.dst v).defers := by rw [hv]
      exfalso
      cases hd : o.dst with
      | none => rw [hd] at this; simp only [Act.put] at this; have := congrArg List.length this; simp at this
      | some t => rw [hd] at this; simp only [Act.put] at this; have := congrArg List.length this; simp at this
    case enter f args =>
      refine Calls.mono h fun e w'' he => ?_
      cases e with
      | returned u =>
        obtain ⟨v, hv, hR⟩ := he
        cases hd : o.dst with
        | none => rw [hd] at hK; exact hK v _ hR
        | some t =>
          rw [hd] at hv hK
          have hlt := hb t hd
          have : (a.put (some t) u).tmps[t]? = (a.put (some t) v).tmps[t]? := by rw [hv]
          simp only [Act.put] at this
          rw [Array.getElem?_setIfInBounds_self_of_lt hlt, Array.getElem?_setIfInBounds_self_of_lt hlt] at this
          injection this with this
          rw [this]
          exact hK v _ hR
      | panicked c => exact he.elim
      | outgrown => exact absurd he (by simp [LetsOut])
    case row row args =>
      refine Rows.mono h fun u w'' he => ?_
      obtain ⟨v, hv, hR⟩ := he
      cases hd : o.dst with
      | none => rw [hd] at hK; exact hK v _ hR
      | some t =>
        rw [hd] at hv hK
        have hlt := hb t hd
        have : (a.put (some t) u).tmps[t]? = (a.put (some t) v).tmps[t]? := by rw [hv]
        simp only [Act.put] at this
        rw [Array.getElem?_setIfInBounds_self_of_lt hlt, Array.getElem?_setIfInBounds_self_of_lt hlt] at this
        injection this with this
        rw [this]
        exact hK v _ hR
  | halt x w' => cases x <;> simp only [Oper.upon] at h ⊢ <;> first | exact h | exact h.elim
/-- i waits for j, by an edge of its own. -/
def edgeB (md : Region.Mode) (ops : Array Oper) (i j : Nat) : Bool := ((ops[i]?).map fun o => o.after.any fun e => Region.binds md e && e.on == j).getD false
def reachB (md : Region.Mode) (ops : Array Oper) : Nat → Nat → Nat → Bool
  | 0, i, j => edgeB md ops i j
  | k + 1, i, j => edgeB md ops i j || (List.range ops.size).any fun u => edgeB md ops i u && reachB md ops k u j
def selB : Op → Bool
  | .select .. => true
  | _ => false
def seesB (U : List Nat) (tmp : Nat → Nat) (ps : List Nat) : Operand → Bool
  | .tmp t => ps.any (fun j => tmp j == t) || U.all (fun j => tmp j != t)
  | _ => true
/-- No operation of U writes the slot that a guard looks at. -/
def apartB (ops : Array Oper) (U : List Nat) (tmp : Nat → Nat) : Option (Nat × Bool) → Bool
  | none => true
  | some (g, _) => U.all fun j => decide ((ops[g]?).bind (·.dst) ≠ some (tmp j))
/-- All that the law asks of the operations' text. -/
def dagOk (md : Region.Mode) (ops : Array Oper) (listed : Array Bool) (U : List Nat) (tmp : Nat → Nat) (pre : Nat → List Nat) (tmps : Array Value) : Bool :=
  listed.size == ops.size &&
  ((List.range ops.size).all fun i => !listed.getD i true || ((ops[i]?).map fun o => o.after.all fun e => !Region.binds md e || listed.getD e.on false).getD true) &&
  ((List.range ops.size).all fun i => listed.getD i true || U.contains i || U.all fun u => reachB md ops 8 i u) &&
  (U.all fun i => !listed.getD i true && (((ops[i]?).map fun o => (Region.wanted o (yielded ops tmps) && apartB ops U tmp o.guard) && !selB o.op && (decide (o.dst = some (tmp i) ∧ tmp i < tmps.size) || decide (o.dst = none ∧ tmps.size ≤ tmp i)) && (o.after.all fun e => !Region.binds md e || listed.getD e.on false || (U.contains e.on && decide (e.on < i)))
    && o.op.operands.all (seesB U tmp (pre i))).getD false) && ((pre i).all fun j => U.contains j && edgeB md ops i j) && decide (pre i).Nodup && decide (∀ j ∈ pre i, j ≠ i)) &&
  (U.all fun i => U.all fun j => i == j || tmp i != tmp j) && decide U.Nodup
theorem edgeB_spec {i j : Nat} (h : edgeB md ops i j = true) : ∃ o, ops[i]? = some o ∧ ∃ e ∈ o.after, Region.binds md e = true ∧ e.on = j := by
  unfold edgeB at h
  cases ho : ops[i]? with
  | none => rw [ho] at h; cases h
  | some o =>
    rw [ho] at h
    simp only [Option.map_some, Option.getD_some] at h
    obtain ⟨k, hk, hk2⟩ := Array.any_eq_true.1 h
    simp only [Bool.and_eq_true, beq_iff_eq] at hk2
    exact ⟨o, rfl, o.after[k], Array.getElem_mem hk, hk2.1, hk2.2⟩
def Closed (md : Region.Mode) (ops : Array Oper) (ls : Array Bool) : Prop := ∀ i o, ops[i]? = some o → ls.getD i true = true → ∀ e ∈ o.after, Region.binds md e = true → ls.getD e.on false = true
theorem getD_flip {ls : Array Bool} {i : Nat} (h : i < ls.size) (a b : Bool) : ls.getD i a = ls.getD i b := by simp [Array.getD, h]
theorem reach_spec {ls : Array Bool} (hs : ls.size = ops.size) (hc : Closed md ops ls) : ∀ (k i j : Nat), reachB md ops k i j = true → (∀ o, ops[i]? = some o → ∀ e ∈ o.after, Region.binds md e = true → ls.getD e.on false = true) → ls.getD j false = true := by
  intro k
  induction k with
  | zero =>
    intro i j h hi
    obtain ⟨o, ho, e, he, hb, rfl⟩ := edgeB_spec h
    exact hi o ho e he hb
  | succ k ih =>
    intro i j h hi
    simp only [reachB, Bool.or_eq_true, List.any_eq_true, List.mem_range, Bool.and_eq_true] at h
    rcases h with h | ⟨u, hu, h1, h2⟩
    · obtain ⟨o, ho, e, he, hb, rfl⟩ := edgeB_spec h
      exact hi o ho e he hb
    · obtain ⟨o, ho, e, he, hb, rfl⟩ := edgeB_spec h1
      have hl := hi o ho e he hb
      exact ih e.on j h2 (fun o' ho' => hc e.on o' ho' (by rw [getD_flip (by omega) true false]; exact hl))
theorem lstOf_size {d : Nat → Bool} : ∀ (U : List Nat) (l : Array Bool), (lstOf d U l).size = l.size := by
  intro U
  induction U with
  | nil => intro l; rfl
  | cons i U ih => intro l; simp only [lstOf]; rw [ih]; split <;> simp
theorem lstOf_get {d : Nat → Bool} (x : Bool) (j : Nat) : ∀ (U : List Nat) (l : Array Bool), j < l.size → (lstOf d U l).getD j x = (l.getD j x || (U.contains j && d j)) := by
  intro U
  induction U with
  | nil => intro l _; simp [lstOf]
  | cons i U ih =>
    intro l hj
    simp only [lstOf]
    rw [ih _ (by split <;> simpa using hj)]
    by_cases e : j = i
    · subst e
      cases hd : d j with
      | true => simp [Array.getD, hj]
      | false => simp
    · have e' : i ≠ j := fun q => e q.symm
      have e2 : (j == i) = false := by simp [e]
      have e3 : (if d i = true then l.setIfInBounds i true else l).getD j x = l.getD j x := by
        cases d i with
        | true => exact getD_set_ne x e'
        | false => rfl
      rw [e3, List.contains_cons, e2, Bool.false_or]
theorem actOf_eval {tmp : Nat → Nat} {val : Nat → Option Value} {x : Operand} : ∀ (U : List Nat) (a : Act), (∀ j ∈ U, x ≠ .tmp (tmp j)) → (actOf tmp val U a).eval x = a.eval x := by
  intro U
  induction U with
  | nil => intro a _; rfl
  | cons i U ih =>
    intro a h
    simp only [actOf]
    rw [ih _ (fun j hj => h j (by simp [hj]))]
    cases val i with
    | none => rfl
    | some v => exact Act.eval_put (fun d hd => by injection hd with hd; subst hd; exact h i (by simp))
theorem actOf_size {tmp : Nat → Nat} {val : Nat → Option Value} : ∀ (U : List Nat) (a : Act), (actOf tmp val U a).tmps.size = a.tmps.size := by
  intro U
  induction U with
  | nil => intro a; rfl
  | cons i U ih =>
    intro a
    simp only [actOf]
    rw [ih]
    cases val i with
    | none => rfl
    | some v => simp [Act.put]
theorem eval_out {a : Act} {t : Nat} (h : a.tmps.size ≤ t) : a.eval (.tmp t) = undef := by
  simp [Act.eval, Array.getD, Nat.not_lt.2 h]
theorem eval_put_self {a : Act} {t : Nat} {v : Value} (h : t < a.tmps.size) : (a.put (some t) v).eval (.tmp t) = v := by
  simp [Act.put, Act.eval, h]
/-- What is read of a slot that was put. -/
theorem actOf_at {tmp : Nat → Nat} {val : Nat → Option Value} {i : Nat} {v : Value} : ∀ (U : List Nat) (a : Act), U.Nodup → (∀ j ∈ U, j ≠ i → tmp j ≠ tmp i) → i ∈ U → val i = some v → tmp i < a.tmps.size → (actOf tmp val U a).eval (.tmp (tmp i)) = v := by
  intro U
  induction U with
  | nil => intro a _ _ hi; cases hi
  | cons k U ih =>
    intro a hnd hne hi hv hlt
    obtain ⟨hk, hnd⟩ := List.nodup_cons.1 hnd
    by_cases e : k = i
    · subst e
      simp only [actOf, hv]
      rw [actOf_eval U _ (fun j hj q => hne j (by simp [hj]) (fun e => hk (e ▸ hj)) (by injection q with q; exact q.symm))]
      exact eval_put_self hlt
    · have hi' : i ∈ U := by rcases List.mem_cons.1 hi with h | h; exact absurd h.symm e; exact h
      simp only [actOf]
      refine ih _ hnd (fun j hj => hne j (by simp [hj])) hi' hv ?_
      cases val k with
      | none => exact hlt
      | some u => simpa [Act.put] using hlt
theorem wpOp_ofW {i : Nat} {o : Oper} {K : Act → World → Prop} {a : Act} {w : World} (ho : ops[i]? = some o) (hw : Region.wanted o (yielded ops a.tmps) = true) (h : o.wp P a w K Q) : wpOp P ops Q i K a w := by
  unfold wpOp
  simp only [ho]
  rw [if_pos hw]
  exact .inl h
theorem wanted_actOf {U : List Nat} {tmp : Nat → Nat} {val : Nat → Option Value} {o : Oper} (h : apartB ops U tmp o.guard = true) {a : Act} : Region.wanted o (yielded ops (actOf tmp val U a).tmps) = Region.wanted o (yielded ops a.tmps) := by
  unfold Region.wanted
  cases hg : o.guard with
  | none => rfl
  | some gw =>
    obtain ⟨g, want⟩ := gw
    rw [hg] at h
    have hall : ∀ j ∈ U, (ops[g]?).bind (·.dst) ≠ some (tmp j) := fun j hj => of_decide_eq_true (List.all_eq_true.1 h j hj)
    have hy : ∀ (V : List Nat) (a : Act), (∀ j ∈ V, (ops[g]?).bind (·.dst) ≠ some (tmp j)) → yielded ops (actOf tmp val V a).tmps g = yielded ops a.tmps g := by
      intro V
      induction V with
      | nil => intro a _; rfl
      | cons i V ih =>
        intro a hV
        simp only [actOf]
        rw [ih _ (fun j hj => hV j (by simp [hj]))]
        cases val i with
        | none => rfl
        | some v =>
          unfold yielded
          cases ht : (ops[g]?).bind (·.dst) with
          | none => rfl
          | some t =>
            have hne : tmp i ≠ t := fun e => hV i (by simp) (by rw [ht, e])
            simp [Act.put, Array.getElem?_setIfInBounds_ne hne]
    simp only [hy U a hall]
/-- **Operations U, each waiting for some of the others**, in whatever order. T: what holds all the time; N i: what i wants of the world before; G i: what i turns; R i: what it yields. -/
theorem wpAnyE_dag {listed : Array Bool} {a : Act} {w : World} (U : List Nat) (tmp : Nat → Nat) (pre : Nat → List Nat) (T : World → Prop) (N : Nat → World → Prop) (G : Nat → World → World → Prop) (R : Nat → (Nat → Option Value) → Value → World → Prop)
    (hok : dagOk md ops listed U tmp pre a.tmps = true) (hE : ∀ i ∈ U, E i = false)
    (hS : ∀ w1, T w1 → S w1) (hT0 : T w) (hT : ∀ i ∈ U, ∀ w1 w2, T w1 → G i w1 w2 → T w2) (hN0 : ∀ i ∈ U, N i w) (hN : ∀ i ∈ U, ∀ j ∈ U, i ≠ j → ∀ w1 w2, T w1 → N i w1 → G j w1 w2 → N i w2)
    (hR : ∀ i ∈ U, ∀ j ∈ U, i ≠ j → ∀ val v u w1 w2, T w1 → val i = some v → val j = none → (∀ p ∈ pre j, ∃ x, val p = some x) → R i val v w1 → G j w1 w2 → R i (upd val j u) v w2)
    (hop : ∀ i ∈ U, ∀ o, ops[i]? = some o → ∀ (val : Nat → Option Value) (w1 : World) (K : Act → World → Prop), val i = none → T w1 → N i w1 → (∀ j ∈ pre i, ∃ v, val j = some v ∧ R j val v w1) →
      (∀ v w2, R i (upd val i v) v w2 → G i w1 w2 → K ((actOf tmp val (pre i) a).put (some (tmp i)) v) w2) → o.wp P (actOf tmp val (pre i) a) w1 K (fun _ _ _ => False))
    (fuel : Nat) (h : ∀ val w', (∀ i ∈ U, ∃ v, val i = some v ∧ R i val v w') → T w' → wpAnyE P md ops Q S E fuel (lstOf (fun i => (val i).isSome) U listed) (actOf tmp val U a) w') :
    wpAnyE P md ops Q S E (fuel + U.length) listed a w := by
  simp only [dagOk, Bool.and_eq_true] at hok
  obtain ⟨⟨⟨⟨⟨o1, o2⟩, o3⟩, o4⟩, o5⟩, o6⟩ := hok
  have hsz : listed.size = ops.size := by simpa using o1
  have hnd : U.Nodup := of_decide_eq_true o6
  have hinj : ∀ i ∈ U, ∀ j ∈ U, j ≠ i → tmp j ≠ tmp i := by
    intro i hi j hj hne e
    have := List.all_eq_true.1 (List.all_eq_true.1 o5 i hi) j hj
    simp only [Bool.or_eq_true, beq_iff_eq, bne_iff_ne] at this
    rcases this with h | h
    · exact hne h.symm
    · exact h e.symm
  have hu : ∀ i ∈ U, listed.getD i true = false ∧ ∃ o, ops[i]? = some o ∧ (Region.wanted o (yielded ops a.tmps) = true ∧ apartB ops U tmp o.guard = true) ∧ (∀ cs b, o.op ≠ .select cs b) ∧ ((o.dst = some (tmp i) ∧ tmp i < a.tmps.size) ∨ (o.dst = none ∧ a.tmps.size ≤ tmp i)) ∧ (∀ e ∈ o.after, Region.binds md e = true → listed.getD e.on false = true ∨ (e.on ∈ U ∧ e.on < i)) ∧
      (∀ x ∈ o.op.operands, ∀ t, x = .tmp t → (∃ j ∈ pre i, tmp j = t) ∨ ∀ j ∈ U, tmp j ≠ t) ∧ (∀ j ∈ pre i, j ∈ U ∧ edgeB md ops i j = true) ∧ (pre i).Nodup ∧ ∀ j ∈ pre i, j ≠ i := by
    intro i hi
    have h := List.all_eq_true.1 o4 i hi
    simp only [Bool.and_eq_true, Bool.not_eq_true', decide_eq_true_eq] at h
    obtain ⟨⟨⟨⟨h1, h2⟩, h3⟩, h4⟩, h5⟩ := h
    cases ho : ops[i]? with
    | none => rw [ho] at h2; cases h2
    | some o =>
      rw [ho] at h2
      simp only [Option.map_some, Option.getD_some, Bool.and_eq_true, Bool.or_eq_true, Bool.not_eq_true', decide_eq_true_eq] at h2
      obtain ⟨⟨⟨⟨g1, g2⟩, g3⟩, g5⟩, g6⟩ := h2
      refine ⟨h1, o, rfl, g1, (fun cs b e => by rw [e] at g2; cases g2), g3, fun e he hb => ?_, fun x hx t ht => ?_, fun j hj => ?_, h4, h5⟩
      · have := (Array.all_eq_true_iff_forall_mem.1 g5) e he
        simp only [hb, Bool.not_true, Bool.false_or, Bool.or_eq_true, Bool.and_eq_true, decide_eq_true_eq, List.contains_iff_mem] at this
        exact this
      · have hx2 : seesB U tmp (pre i) x = true := by
          first | exact (List.all_eq_true.1 g6) x hx | exact (Array.all_eq_true_iff_forall_mem.1 g6) x hx
        subst ht
        simp only [seesB, Bool.or_eq_true, List.any_eq_true, beq_iff_eq, List.all_eq_true, bne_iff_ne] at hx2
        exact hx2
      · have := List.all_eq_true.1 h3 j hj
        simp only [Bool.and_eq_true, List.contains_iff_mem] at this
        exact this
  have hc0 : Closed md ops listed := by
    intro i o ho hl e he hb
    have hlt : i < ops.size := (Array.getElem?_eq_some_iff.1 ho).1
    have h := List.all_eq_true.1 o2 i (List.mem_range.2 hlt)
    rw [hl, ho] at h
    simp only [Bool.not_true, Bool.false_or, Option.map_some, Option.getD_some] at h
    have := (Array.all_eq_true_iff_forall_mem.1 h) e he
    simpa [hb] using this
  have hrest : ∀ i, i < ops.size → listed.getD i true = false → i ∉ U → ∀ u ∈ U, reachB md ops 8 i u = true := by
    intro i hi hl hn u hu
    have h := List.all_eq_true.1 o3 i (List.mem_range.2 hi)
    rw [hl] at h
    simp only [Bool.false_or, Bool.or_eq_true, List.contains_iff_mem, List.all_eq_true] at h
    rcases h with h | h
    · exact absurd h hn
    · exact h u hu
  clear o1 o2 o3 o4 o5 o6
  have main : ∀ (k : Nat) (val : Nat → Option Value) (w1 : World), (U.filter fun i => (val i).isNone).length = k → T w1 → Closed md ops (lstOf (fun i => (val i).isSome) U listed) → (∀ i ∈ U, ∀ v, val i = some v → R i val v w1) → (∀ i ∈ U, val i = none → N i w1) → wpAnyE P md ops Q S E (fuel + k) (lstOf (fun i => (val i).isSome) U listed) (actOf tmp val U a) w1 := by
    intro k
    induction k with
    | zero =>
      intro val w1 hk hTw hcl hv hn
      refine h val w1 (fun i hi => ?_) hTw
      cases e : val i with
      | some v => exact ⟨v, rfl, hv i hi v e⟩
      | none =>
        have := List.length_eq_zero_iff.1 hk
        have hm : i ∈ U.filter fun i => (val i).isNone := List.mem_filter.2 ⟨hi, by simp [e]⟩
        rw [this] at hm
        cases hm
    | succ k ih =>
      intro val w1 hk hTw hcl hv hn
      have hls : (lstOf (fun i => (val i).isSome) U listed).size = ops.size := by rw [lstOf_size, hsz]
      have hget : ∀ x j, j < ops.size → (lstOf (fun i => (val i).isSome) U listed).getD j x = (listed.getD j x || (U.contains j && (val j).isSome)) := fun x j hj => lstOf_get x j U listed (by omega)
      refine ⟨fun h0 => ?_, fun i hi => ?_⟩
      · -- the least that is not done is ready
        exfalso
        have hex : ∀ (m : Nat) (i : Nat), i < m → i ∈ U → val i = none → False := by
          intro m
          induction m with
          | zero => intro i hi; omega
          | succ m ihm =>
            intro i hi hU hvn
            obtain ⟨u1, o, ho, u2, u3, u4, u6, u7, u8⟩ := hu i hU
            have hlt : i < ops.size := (Array.getElem?_eq_some_iff.1 ho).1
            have hrdy : i ∈ Region.ready md ops (lstOf (fun i => (val i).isSome) U listed) := by
              refine mem_ready.2 ⟨by rw [hget true i hlt, u1, hvn]; simp, o, ho, fun e he hb => ?_⟩
              rcases u6 e he hb with h1 | ⟨h1, h2⟩
              · have hlt2 : e.on < ops.size := by
                  rcases Nat.lt_or_ge e.on listed.size with q | q
                  · omega
                  · simp [Array.getD, Nat.not_lt.2 q] at h1
                rw [hget false e.on hlt2, h1]
                rfl
              · obtain ⟨v1, o', ho', _⟩ := hu e.on h1
                have hlt2 : e.on < ops.size := (Array.getElem?_eq_some_iff.1 ho').1
                rw [hget false e.on hlt2]
                cases hve : val e.on with
                | none => exact (ihm e.on (by omega) h1 hve).elim
                | some v => simp [h1]
            rw [h0] at hrdy
            cases hrdy
        have hpos : 0 < (U.filter fun i => (val i).isNone).length := by omega
        obtain ⟨i, hi⟩ := List.exists_mem_of_length_pos hpos
        obtain ⟨h1, h2⟩ := List.mem_filter.1 hi
        exact hex (i + 1) i (by omega) h1 (by simpa using h2)
      · obtain ⟨hun, oi, hoi, hall⟩ := mem_ready.1 hi
        have hlt : i < ops.size := (Array.getElem?_eq_some_iff.1 hoi).1
        rw [hget true i hlt, Bool.or_eq_false_iff] at hun
        have hmem : i ∈ U := by
          refine Classical.byContradiction fun hn2 => ?_
          have hpos : 0 < (U.filter fun i => (val i).isNone).length := by omega
          obtain ⟨u, hu1⟩ := List.exists_mem_of_length_pos hpos
          obtain ⟨h1, h2⟩ := List.mem_filter.1 hu1
          have hrb := hrest i hlt hun.1 hn2 u h1
          have := reach_spec hls hcl 8 i u hrb (fun o ho e he hb => by
            rw [hoi] at ho
            injection ho with ho
            subst ho
            exact hall e he hb)
          obtain ⟨v1, o', ho', _⟩ := hu u h1
          have hlt2 : u < ops.size := (Array.getElem?_eq_some_iff.1 ho').1
          rw [hget false u hlt2, getD_flip (by omega) false true, v1] at this
          simp only [Bool.false_or, Bool.and_eq_true] at this
          cases hvu : val u with
          | none => rw [hvu] at this; simp at this
          | some v => rw [hvu] at h2; simp at h2
        have hvn : val i = none := by
          cases e : val i with
          | none => rfl
          | some v => rw [e] at hun; simp [hmem] at hun
        obtain ⟨u1, o, ho, u2, u3, u4, u6, u7, u8, u9, u10⟩ := hu i hmem
        have hpre : ∀ j ∈ pre i, ∃ v, val j = some v ∧ R j val v w1 := by
          intro j hj
          obtain ⟨j1, j2⟩ := u8 j hj
          obtain ⟨o', ho', e, he, hb, hon⟩ := edgeB_spec j2
          rw [hoi] at ho'
          injection ho' with ho'
          subst ho'
          have hl := hall e he hb
          obtain ⟨v1, o'', ho'', _⟩ := hu j j1
          have hlt2 : j < ops.size := (Array.getElem?_eq_some_iff.1 ho'').1
          rw [hon, hget false j hlt2, getD_flip (by omega) false true, v1] at hl
          cases hvj : val j with
          | none => rw [hvj] at hl; simp at hl
          | some v => exact ⟨v, rfl, hv j j1 v hvj⟩
        have heval : ∀ x ∈ o.op.operands, (actOf tmp val U a).eval x = (actOf tmp val (pre i) a).eval x := by
          intro x hx
          by_cases hxt : ∃ t, x = .tmp t
          · obtain ⟨t, rfl⟩ := hxt
            rcases u7 _ hx t rfl with ⟨j, hj, rfl⟩ | hno
            · obtain ⟨v, hvj, _⟩ := hpre j hj
              have hjU := (u8 j hj).1
              obtain ⟨_, _, _, _, _, hj5, _⟩ := hu j hjU
              rcases hj5 with ⟨_, hj5⟩ | ⟨_, hj5⟩
              · rw [actOf_at U a hnd (fun q hq hne => hinj j hjU q hq hne) hjU hvj hj5, actOf_at (pre i) a u9 (fun q hq hne => hinj j hjU q (u8 q hq).1 hne) hj hvj hj5]
              · rw [eval_out (by rw [actOf_size]; exact hj5), eval_out (by rw [actOf_size]; exact hj5)]
            · rw [actOf_eval U a (fun j hj q => hno j hj (by injection q with q; exact q.symm)), actOf_eval (pre i) a (fun j hj q => hno j (u8 j hj).1 (by injection q with q; exact q.symm))]
          · rw [actOf_eval U a (fun j hj q => hxt ⟨_, q⟩), actOf_eval (pre i) a (fun j hj q => hxt ⟨_, q⟩)]
        have hput : ∀ (b : Act), b.tmps.size = a.tmps.size → ∀ v, b.put o.dst v = b.put (some (tmp i)) v := by
          intro b hb v
          rcases u4 with ⟨e, _⟩ | ⟨e, hge⟩
          · rw [e]
          · rw [e]
            have : b.tmps.setIfInBounds (tmp i) v = b.tmps := Array.setIfInBounds_eq_of_size_le (by omega)
            simp only [Act.put, this]
        have hwp := hop i hmem o ho val w1 (fun b w2 => ∃ v, b = (actOf tmp val (pre i) a).put o.dst v ∧ (R i (upd val i v) v w2 ∧ G i w1 w2)) hvn hTw (hn i hmem hvn) hpre (fun v w2 hr hg => ⟨v, (hput _ (actOf_size _ _) v).symm, hr, hg⟩)
        refine wpOp_ofW ho (by rw [wanted_actOf u2.2]; exact u2.1) (wp_transfer u3 heval (fun t ht => by rw [actOf_size]; rcases u4 with ⟨e, h5⟩ | ⟨e, _⟩ <;> (rw [e] at ht; first | (injection ht with ht; exact ht ▸ h5) | cases ht)) hwp fun v w2 ⟨hRv, hGv⟩ => ?_)
        have hT2 := hT i hmem w1 w2 hTw hGv
        refine ⟨fun _ _ => hS _ hT2, ?_⟩
        have hl : lstOf (fun j => j == i || (val j).isSome) U listed = lstOf (fun j => (upd val i v j).isSome) U listed := lstOf_congr U _ (fun j _ => by by_cases e : j = i <;> simp [upd, e])
        rw [hput _ (actOf_size _ _) v, actOf_upd U a hnd (fun j hj hne => hinj i hmem j hj hne) hmem hvn, lstOf_upd U listed hnd hmem (by simp [hvn]), hl]
        refine ih (upd val i v) w2 ?_ hT2 ?_ (fun j hj u hu2 => ?_) (fun j hj hnj => ?_)
        · have hcount : ∀ (U : List Nat), U.Nodup → i ∈ U → (U.filter fun j => (upd val i v j).isNone).length + 1 = (U.filter fun j => (val j).isNone).length := by
            intro U
            induction U with
            | nil => intro _ hi; cases hi
            | cons c U ih2 =>
              intro hnd hi
              obtain ⟨hc, hnd⟩ := List.nodup_cons.1 hnd
              by_cases e : c = i
              · subst e
                have hs : U.filter (fun j => (upd val c v j).isNone) = U.filter (fun j => (val j).isNone) := List.filter_congr (fun j hj => by simp [upd, show j ≠ c from fun e => hc (e ▸ hj)])
                simp [upd, hvn]
                rw [← hs]
                rfl
              · have hi' : i ∈ U := by rcases List.mem_cons.1 hi with h | h; exact absurd h.symm e; exact h
                have := ih2 hnd hi'
                simp only [List.filter_cons, show upd val i v c = val c from by simp [upd, e]]
                split <;> simp_all
          have := hcount U hnd hmem
          omega
        · rw [← hl, ← lstOf_upd U listed hnd hmem (by simp [hvn])]
          intro j oj hoj hlj e he hb
          have hltj : j < ops.size := (Array.getElem?_eq_some_iff.1 hoj).1
          by_cases ej : i = j
          · subst ej
            rw [hoi] at hoj
            injection hoj with hoj
            subst hoj
            exact getD_set_true (hall e he hb)
          · rw [getD_set_ne true ej] at hlj
            exact getD_set_true (hcl j oj hoj hlj e he hb)
        · by_cases e : j = i
          · subst e
            rw [show upd val j v j = some v from by simp [upd]] at hu2
            injection hu2 with hu2
            subst hu2
            exact hRv
          · rw [show upd val i v j = val j from by simp [upd, e]] at hu2
            exact hR j hj i hmem e val u v w1 w2 hTw hu2 hvn (fun p hp => let ⟨x, hx, _⟩ := hpre p hp; ⟨x, hx⟩) (hv j hj u hu2) hGv
        · have e : j ≠ i := by rintro rfl; simp [upd] at hnj
          rw [show upd val i v j = val j from by simp [upd, e]] at hnj
          exact hN j hj i hmem e w1 w2 hTw (hn j hj hnj) hGv
  have hstart : ∀ (U : List Nat) (l : Array Bool), lstOf (fun i => ((fun _ => none : Nat → Option Value) i).isSome) U l = l := by
    intro U
    induction U with
    | nil => intro l; rfl
    | cons i U ih => intro l; simp only [lstOf]; exact ih l
  have hstart2 : ∀ (U : List Nat) (a : Act), actOf tmp (fun _ => none) U a = a := by
    intro U
    induction U with
    | nil => intro a; rfl
    | cons i U ih => intro a; simp only [actOf]; exact ih a
  have hlen : (U.filter fun i => ((fun _ => none : Nat → Option Value) i).isNone).length = U.length := congrArg List.length (List.filter_eq_self.2 fun i _ => rfl)
  have := main U.length (fun _ => none) w hlen hT0 (by rw [hstart]; exact hc0) (fun i _ v e => by cases e) (fun i hi _ => hN0 i hi)
  rw [hstart, hstart2] at this
  exact this
/-- The same, where all of U make memory alone. -/
theorem wpAnyE_dagB {listed : Array Bool} {a : Act} {w : World} (U : List Nat) (tmp : Nat → Nat) (pre : Nat → List Nat) (R : Nat → (Nat → Option Value) → Value → World → Prop)
    (hok : dagOk md ops listed U tmp pre a.tmps = true) (hE : ∀ i ∈ U, E i = false) (hS : ∀ w1, Below w.heap.size w w1 → S w1)
    (hR : ∀ i val val' v w1 w2, (∀ j u, val j = some u → val' j = some u) → Below w1.heap.size w1 w2 → R i val v w1 → R i val' v w2)
    (hop : ∀ i ∈ U, ∃ o, ops[i]? = some o ∧ ∀ (val : Nat → Option Value) (w1 : World) (K : Act → World → Prop), Below w.heap.size w w1 → (∀ j ∈ pre i, ∃ v, val j = some v ∧ R j val v w1) →
      (∀ v w2, R i val v w2 → Below w1.heap.size w1 w2 → K ((actOf tmp val (pre i) a).put (some (tmp i)) v) w2) → o.wp P (actOf tmp val (pre i) a) w1 K (fun _ _ _ => False))
    (fuel : Nat) (h : ∀ val w', (∀ i ∈ U, ∃ v, val i = some v ∧ R i val v w') → Below w.heap.size w w' → wpAnyE P md ops Q S E fuel (lstOf (fun i => (val i).isSome) U listed) (actOf tmp val U a) w') :
    wpAnyE P md ops Q S E (fuel + U.length) listed a w := by
  have hup : ∀ (val : Nat → Option Value) i u, val i = none → ∀ j x, val j = some x → upd val i u j = some x := by
    intro val i u hn j x hx
    simp only [upd]
    split
    · rename_i e; subst e; rw [hn] at hx; cases hx
    · exact hx
  refine wpAnyE_dag U tmp pre (fun w1 => Below w.heap.size w w1) (fun _ _ => True) (fun _ w1 w2 => Below w1.heap.size w1 w2) R hok hE hS (Below.refl _ _) (fun i _ w1 w2 h1 h2 => below_tr h1 h2) (fun _ _ => trivial) (fun _ _ _ _ _ _ _ _ _ _ => trivial)
    (fun i _ j _ _ val v u w1 w2 _ _ hvj _ hr hb => hR i val _ v w1 w2 (hup val j u hvj) hb hr) (fun i hi o ho val w1 K hv hT _ hpre hK => ?_) fuel h
  obtain ⟨o', ho', hw⟩ := hop i hi
  rw [ho] at ho'
  injection ho' with ho'
  subst ho'
  exact hw val w1 K hT hpre fun v w2 hr hb => hK v w2 (hR i val _ v w2 w2 (hup val i v hv) (Below.refl _ _) hr) hb
end
end Go.Proofs.Ytgjdjgainjedhaa
