/- The deque's plain law: an access of the owner, and the order of what is done. No program in sight. -/
import Derived.Test.YtdjglkpcdhkodaaDqS
namespace Go.Proofs.Ytdjglkpcdhkodaa
open Go.RowKit
set_option linter.unusedVariables false
theorem fli_of {p0 : Ph} {b : Bool} (h : p0.fl = b) : fli p0 = if b then 1 else 0 := by unfold fli; rw [h]
section
variable {l : Ly} {sz : Nat} {row0 m : List Int} {a : Int} {ph : Nat → Ph} {f : Nat → Nat} {p : Nat} {q : Bool} {step nx : Nat} {pre post : List Ent} {recs D : List DoneD}
def OutLI (row0 m' : List Int) (x : Ph) (p : Nat) (q : Bool) (step : Nat) (pre post : List Ent) (a : Int) (nx : Nat) (recs D : List DoneD) : Prop :=
  (∃ pre' post', LI row0 m' x p q (step + 1) pre' post' ∧ ((pre' ++ post').map (·.1)).Perm ((pre ++ post).map (·.1) ++ D.filter fun d => decide (d.err ≠ 9))) ∧ SI m' x a nx (D ++ recs) (step + 1)
/-- No row is turned, and nothing is over. -/
theorem OutLI.quiet {m' : List Int} {p0 x : Ph} {q' : Bool} (li : LI row0 m p0 p q step pre post) (si : SI m p0 a nx recs step) (hf : x.fl = p0.fl) (hp : pnd x = pnd p0) (hm : top m' = top m ∧ bot m' = bot m) (hL : ∀ i : Int, top m ≤ i → i < bot m + fli p0 → rc m' (whi m') i = rc m (whi m) i)
    (hr : ∀ rp r0, FlRel m q rp r0 p0 → FlRel m' q' rp r0 x) (h6 : ∀ b y, x = .o6 b y true → 1 ≤ y ∧ y ≤ nx) : OutLI row0 m' x p q' step pre post a nx recs [] := by
  have hfl : fli x = fli p0 := by unfold fli; rw [hf]
  have h0 : 0 ≤ fli p0 := by unfold fli; split <;> omega
  refine ⟨⟨pre, post, li.quiet hf (Lc_congr hm.1 hm.2 fun i h1 h2 => hL i h1 (by omega)) hr (Nat.le_succ _), by simp⟩, ?_⟩
  refine si.keep (by rw [hm.2, hfl, hp]; omega) ?_ (by rw [hp]; exact Nat.le_refl _) (pnd_le _) h6 (Nat.le_succ _)
  have : Lp m' x = Lp m p0 := by
    unfold Lp
    rw [hm.1, hm.2, hfl]
    exact rowM_congr fun i h1 h2 => hL i h1 (by omega)
  rw [this]
  exact List.Sublist.refl _
theorem recs_none {x : Ph} {kind a : Int} {step p : Nat} {fl : Bool} (hD : Recs x kind a step p fl D) (h : x.fin = none) : D = [] := by
  unfold Recs at hD
  rw [h] at hD
  exact hD
theorem recs_some {x : Ph} {kind a v e : Int} {is : Bool} {step p : Nat} {fl : Bool} (hD : Recs x kind a step p fl D) (h : x.fin = some (v, is, e)) : ∃ d, D = [d] ∧ d.op.kind = kind ∧ d.op.a = a ∧ d.val = v ∧ d.is = is ∧ d.err = e ∧ d.last = step ∧ d.first ≤ step ∧ (fl = true → d.first ≤ p) := by
  unfold Recs at hD
  rw [h] at hD
  exact hD
theorem own_li (ci : CI l sz m a ph f p q) (ly : DLay l sz) (li : LI row0 m (ph 0) p q step pre post) (si : SI m (ph 0) a nx recs step) {pt k c o v : Int} (hp : (ph 0).ans l a pt = .ask k c o v)
    (hD : Recs ((ph 0).add l (tlM k c o v m)) (ph 0).kindOf a step p (ph 0).fl D) :
    OutLI row0 (mkM k c o v m) ((ph 0).add l (tlM k c o v m)) (gp (ph 0) step p) (gq (ph 0) m q) step pre post a nx recs D := by
  have hl := ci.big ly
  have hdq := ly.dq
  have hr3 := rings3 ly
  have hown := ci.own
  have hsz0 := ci.sz
  have hb0 := ci.b0
  have htb := ci.tb
  have hqb := ci.qb
  obtain ⟨hr0, hr1⟩ := ci.r0
  have ht0 := ci.t0
  have hs := size_cases hr0 (by omega)
  have hbn := si.bn
  cases e : ph 0 with
  | id => rw [e] at hp; cases hp
  | un => rw [e] at hp; cases hp
  | fu => rw [e] at hp; cases hp
  | on a b c => rw [e] at hp; cases hp
  | s0 => rw [e] at hown; exact hown.elim
  | s1 _ => rw [e] at hown; exact hown.elim
  | s2 _ => rw [e] at hown; exact hown.elim
  | s3 _ _ => rw [e] at hown; exact hown.elim
  | s4 _ _ => rw [e] at hown; exact hown.elim
  | sn _ _ _ _ => rw [e] at hown; exact hown.elim
  | u0 =>
    rw [e] at hp li si hD
    injection hp with h1 h2 h3 h4
    subst h1 h2 h3 h4
    rw [(mk1 _ m).1, (mk1 _ m).2]
    rw [(mk1 _ m).2] at hD
    obtain rfl := recs_none hD rfl
    exact OutLI.quiet li si rfl rfl ⟨rfl, rfl⟩ (fun _ _ _ => rfl) (fun _ _ h => h) (fun _ _ h => by cases h)
  | u1 b =>
    rw [e] at hp li si hD
    injection hp with h1 h2 h3 h4
    subst h1 h2 h3 h4
    rw [(mk1 _ m).1, (mk1 _ m).2]
    rw [(mk1 _ m).2] at hD
    obtain rfl := recs_none hD rfl
    exact OutLI.quiet li si rfl rfl ⟨rfl, rfl⟩ (fun _ _ _ => rfl) (fun _ _ h => h) (fun _ _ h => by cases h)
  | u2 b t =>
    rw [e] at hp li si hD hown hb0 hbn
    injection hp with h1 h2 h3 h4
    subst h1 h2 h3 h4
    rw [(mk1 _ m).1, (mk1 _ m).2]
    rw [(mk1 _ m).2] at hD
    simp only [Ph.add] at hD ⊢
    by_cases c1 : sizeN (cel m (l.deque + 2)) ≤ b - t
    · rw [if_pos c1] at hD ⊢
      by_cases c2 : cel m (l.deque + 2) < 0 ∨ ringsN l.c.tasks - 1 ≤ cel m (l.deque + 2)
      · rw [if_pos c2] at hD ⊢
        obtain ⟨d, rfl, d1, d2, d3, d4, d5, d6, d7, d8⟩ := recs_some hD rfl
        obtain ⟨o1, o2⟩ := OutLI.quiet (x := .u2 b t) li si rfl rfl ⟨rfl, rfl⟩ (fun _ _ _ => rfl) (fun _ _ h => h) (fun _ _ h => by cases h)
        obtain ⟨pre', post', p1, p2⟩ := o1
        refine ⟨⟨pre', post', p1.quiet (m' := m) (p0' := .fu) (q' := q) rfl rfl (fun _ _ h => h) (Nat.le_refl _), ?_⟩, ?_⟩
        · have : ([d].filter fun d => decide (d.err ≠ 9)) = [] := by simp [d5]
          rw [this]
          exact p2
        · have hs2 : SI m .fu a nx recs (step + 1) := o2.keep (by simp only [fli, Ph.fl, pnd]; omega) (List.Sublist.refl _) (by simp [pnd]) (pnd_le _) (fun _ _ h => by cases h) (Nat.le_refl _)
          have hpa := si.pa rfl
          simp only [fli, Ph.fl, pnd] at hb0 hbn
          simp at hb0 hbn
          exact hs2.add (fun h => by rw [d1] at h; cases h) (fun h => by rw [d1] at h; cases h) (fun _ => by rw [d2]; omega)
      · rw [if_neg c2] at hD ⊢
        obtain rfl := recs_none hD rfl
        exact OutLI.quiet li si rfl rfl ⟨rfl, rfl⟩ (fun _ _ _ => rfl) (fun _ _ h => h) (fun _ _ h => by cases h)
    · rw [if_neg c1] at hD ⊢
      obtain rfl := recs_none hD rfl
      exact OutLI.quiet li si rfl rfl ⟨rfl, rfl⟩ (fun _ _ _ => rfl) (fun _ _ h => h) (fun _ _ h => by cases h)
  | mv b r t ms =>
    rw [e] at hp hown li si hD
    obtain ⟨g1, g2, g3, g4, g5, g6, kk, g7, g8, g9⟩ := hown
    subst g2
    have hdr := moves_drop ly hr0 g6 g3 g5 kk g7
    by_cases hk : t + kk < b
    · rw [if_pos hk] at hdr
      rw [hdr] at g8
      subst g8
      injection hp with h1 h2 h3 h4
      subst h1 h2 h3 h4
      rw [(mk1 _ m).1, (mk1 _ m).2]
      rw [(mk1 _ m).2] at hD
      obtain rfl := recs_none hD rfl
      exact OutLI.quiet li si rfl rfl ⟨rfl, rfl⟩ (fun _ _ _ => rfl) (fun _ _ h => h) (fun _ _ h => by cases h)
    · rw [if_neg hk] at hdr
      rw [hdr] at g8
      subst g8
      injection hp with h1 h2 h3 h4
      subst h1 h2 h3 h4
      rw [(mk2 _ _ m).1, (mk2 _ _ m).2, hdq]
      rw [(mk2 _ _ m).2] at hD
      obtain rfl := recs_none hD rfl
      obtain ⟨k1, k2, k3⟩ := whi_st (m := m) (v := whi m + 1) (by omega)
      have sm := same_low (m := m) (c := 21) (v := whi m + 1) (by omega) (by omega)
      show OutLI row0 (m.set 21 (whi m + 1)) (.pt b t (whi m + 1)) p q step pre post a nx recs []
      refine OutLI.quiet li si rfl rfl ⟨k1, k2⟩ (fun i h1 h2 => ?_) (fun _ _ h => h) (fun _ _ h => by cases h)
      simp only [fli, Ph.fl] at h2
      simp at h2
      rw [k3, sm.rc _ _ (by omega) (by omega)]
      exact g9 i (by omega) (by omega)
  | mx b r t mm ms x =>
    rw [e] at hp hown li si hD
    obtain ⟨g1, g2, g3, g4, g5, g6, kk, g7, g8, g9, g10⟩ := hown
    subst g2
    have hdr := moves_drop ly hr0 g6 g3 g5 kk (by omega)
    rw [if_pos g7] at hdr
    rw [hdr] at g8
    injection g8 with g8 g8'
    subst g8 g8'
    injection hp with h1 h2 h3 h4
    subst h1 h2 h3 h4
    rw [(mk2 _ _ m).1, (mk2 _ _ m).2]
    rw [(mk2 _ _ m).2] at hD
    obtain rfl := recs_none hD rfl
    have hpl := plc_in (r := whi m + 1) (by omega) (by omega) (t + kk)
    have hpl2 := plc_lt ly (r := whi m + 1) (by omega) g6 (t + kk)
    have hml := ci.ml
    obtain ⟨k0, k1, k2, k3, k4⟩ := ring_set (m := m) (r := whi m + 1) (i := t + kk) (v := x) (by omega) (by omega) (by omega)
    show OutLI row0 (m.set (plc (whi m + 1) (t + kk)).toNat x) (.mv b (whi m) t _) p q step pre post a nx recs []
    refine OutLI.quiet li si rfl rfl ⟨k1, k2⟩ (fun i h1 h2 => ?_) (fun _ _ h => h) (fun _ _ h => by cases h)
    rw [k3, k4 _ _ hr0 (by omega), if_neg (plc_ne (by omega) (by omega) hr0 (by omega) (.inl (by omega)))]
  | pt b t r =>
    rw [e] at hp hown li si hD hsz0 hb0
    obtain ⟨g1, g2, g3, g4, g5⟩ := hown
    subst g2
    injection hp with h1 h2 h3 h4
    subst h1 h2 h3 h4
    simp only [fli, Ph.fl] at hsz0 hb0
    simp at hsz0 hb0
    rw [(mk2 _ _ m).2] at hD
    rw [place_eq ly hr0 (by omega) (by omega), (mk2 _ _ m).1, (mk2 _ _ m).2]
    obtain rfl := recs_none hD rfl
    have hpl := plc_in (r := whi m) (by omega) (by omega) b
    have hpl2 := plc_lt ly (r := whi m) (by omega) hr1 b
    have hml := ci.ml
    obtain ⟨k0, k1, k2, k3, k4⟩ := ring_set (m := m) (r := whi m) (i := b) (v := a) (by omega) (by omega) (by omega)
    show OutLI row0 (m.set (plc (whi m) b).toNat a) (.bt b t) p q step pre post a nx recs []
    refine OutLI.quiet li si rfl rfl ⟨k1, k2⟩ (fun i h1 h2 => ?_) (fun _ _ h => h) (fun _ _ h => by cases h)
    simp only [fli, Ph.fl] at h2
    simp at h2
    rw [k3, k4 _ _ hr0 (by omega), if_neg]
    intro hq
    exact plc_ne (r := whi m) (r' := whi m) (i := i) (i' := b) (by omega) (by omega) (by omega) (by omega) (.inr ⟨rfl, by omega, by omega⟩) hq.symm
  | bt b t =>
    rw [e] at hp hown li si hD hb0 htb
    obtain ⟨g1, g3, g4, g5, g6⟩ := hown
    injection hp with h1 h2 h3 h4
    subst h1 h2 h3 h4
    simp only [fli, Ph.fl] at hb0
    simp only [beff, Ph.fl] at htb
    simp at hb0 htb
    rw [(mk2 _ _ m).1, (mk2 _ _ m).2, hdq]
    rw [(mk2 _ _ m).2] at hD
    obtain ⟨d, rfl, d1, d2, d3, d4, d5, d6, d7, d8⟩ := recs_some hD rfl
    obtain ⟨k1, k2, k3⟩ := bot_st (m := m) (v := b + 1) (by omega)
    have sm := same_low (m := m) (c := 20) (v := b + 1) (by omega) (by omega)
    show OutLI row0 (m.set 20 (b + 1)) .un p q step pre post a nx recs [d]
    have hLc : Lc (m.set 20 (b + 1)) = Lc m ++ [a] := by
      unfold Lc
      rw [k1, k2, k3, show (b + 1 - top m).toNat = (bot m - top m).toNat + 1 by omega, rowM_snoc]
      congr 1
      · exact rowM_congr fun i _ _ => sm.rc _ _ hr0 (by omega)
      · rw [sm.rc _ _ hr0 (by omega), ← g6, show top m + ((bot m - top m).toNat : Int) = b by omega]
    refine ⟨?_, ?_⟩
    · obtain ⟨pre', post', p1, p2⟩ := li.app (p0' := .un) (d := d) (m' := m.set 20 (b + 1)) rfl (by rw [hLc, fits_push d1 d4, d2]) (fun h => by cases h) d7 d6
      refine ⟨pre', post', p1, ?_⟩
      have : ([d].filter fun d => decide (d.err ≠ 9)) = [d] := by simp [d5]
      rw [this]
      exact p2
    · exact si.push rfl (by rw [lp_eq rfl, lp_eq rfl]; exact hLc) rfl (by rw [k2]; simp only [fli, Ph.fl]; simp; omega) (by simpa [fli, Ph.fl] using hb0) (fun _ _ h => by cases h) d1 d2
  | o0 =>
    rw [e] at hp li si hD
    injection hp with h1 h2 h3 h4
    subst h1 h2 h3 h4
    rw [(mk1 _ m).1, (mk1 _ m).2]
    rw [(mk1 _ m).2] at hD
    obtain rfl := recs_none hD rfl
    exact OutLI.quiet li si rfl rfl ⟨rfl, rfl⟩ (fun _ _ _ => rfl) (fun _ _ h => h) (fun _ _ h => by cases h)
  | o1 b =>
    rw [e] at hp li si hD hown hb0 htb
    have g1 : b = bot m := hown
    injection hp with h1 h2 h3 h4
    subst h1 h2 h3 h4
    simp only [fli, Ph.fl] at hb0
    simp only [beff, Ph.fl] at htb
    simp at hb0 htb
    rw [(mk2 _ _ m).1, (mk2 _ _ m).2, hdq]
    rw [(mk2 _ _ m).2] at hD
    obtain rfl := recs_none hD rfl
    obtain ⟨k1, k2, k3⟩ := bot_st (m := m) (v := b - 1) (by omega)
    have sm := same_low (m := m) (c := 20) (v := b - 1) (by omega) (by omega)
    show OutLI row0 (m.set 20 (b - 1)) (.o2 b) step (decide (b - 1 ≤ top m)) step pre post a nx recs []
    have hLp : Lp (m.set 20 (b - 1)) (.o2 b) = Lp m (.o1 b) := by
      rw [lp_fl rfl, lp_eq rfl]
      unfold Lc
      rw [k1, k2, k3, show (b - 1 + 1 - top m).toNat = (bot m - top m).toNat by omega]
      exact rowM_congr fun i _ _ => sm.rc _ _ hr0 (by omega)
    refine ⟨⟨pre, post, li.begin rfl rfl rfl ?_, by simp⟩, ?_⟩
    · have hrow : ∀ n, rowM (m.set 20 (b - 1)) (whi m) (top m) n = rowM m (whi m) (top m) n := fun n => rowM_congr fun i _ _ => sm.rc _ _ hr0 (by omega)
      show if decide (b - 1 ≤ top m) = true then _ else _
      by_cases hq : b - 1 ≤ top m
      · rw [if_pos (by simpa using hq)]
        refine ⟨by unfold Lc; rw [k1, k2, show (b - 1 - top m).toNat = 0 by omega]; rfl, ?_⟩
        rw [k1, k2, k3]
        by_cases hq2 : top m = b - 1
        · refine .inl ⟨hq2, ?_⟩
          unfold Lc
          rw [show (bot m - top m).toNat = 0 + 1 by omega, rowM_succ, rowM_zero, sm.rc _ _ hr0 (by omega), hq2]
        · exact .inr ⟨by omega, Lc_nil (by omega)⟩
      · rw [if_neg (by simpa using hq)]
        rw [k3, k2, sm.rc _ _ hr0 (by omega)]
        unfold Lc
        rw [k1, k2, k3, hrow, show (bot m - top m).toNat = (b - 1 - top m).toNat + 1 by omega, rowM_snoc, show top m + ((b - 1 - top m).toNat : Int) = b - 1 by omega]
    · refine si.keep (by rw [k2]; simp only [fli, Ph.fl, pnd]; omega) (by rw [hLp]; exact List.Sublist.refl _) (by simp [pnd]) (pnd_le _) (fun _ _ h => by cases h) (Nat.le_succ _)
  | o2 b =>
    rw [e] at hp li si hD
    injection hp with h1 h2 h3 h4
    subst h1 h2 h3 h4
    rw [(mk1 _ m).1, (mk1 _ m).2]
    rw [(mk1 _ m).2] at hD
    simp only [Ph.add] at hD ⊢
    by_cases c1 : b - 1 < cel m l.deque
    · rw [if_pos c1] at hD ⊢
      obtain rfl := recs_none hD rfl
      exact OutLI.quiet li si rfl rfl ⟨rfl, rfl⟩ (fun _ _ _ => rfl) (fun _ _ h => h) (fun _ _ h => by cases h)
    · rw [if_neg c1] at hD ⊢
      obtain rfl := recs_none hD rfl
      exact OutLI.quiet li si rfl rfl ⟨rfl, rfl⟩ (fun _ _ _ => rfl) (fun _ _ h => h) (fun _ _ h => by cases h)
  | oe b =>
    rw [e] at hp hown li si hD hqb htb
    obtain ⟨g1, g2⟩ := hown
    injection hp with h1 h2 h3 h4
    subst h1 h2 h3 h4
    have hq : q = true := by
      simp only [beff, Ph.fl] at htb
      cases q
      · simp at htb; omega
      · rfl
    subst hq
    rw [(mk2 _ _ m).1, (mk2 _ _ m).2, hdq]
    rw [(mk2 _ _ m).2] at hD
    obtain ⟨d, rfl, d1, d2, d3, d4, d5, d6, d7, d8⟩ := recs_some hD rfl
    obtain ⟨k1, k2, k3⟩ := bot_st (m := m) (v := b) (by omega)
    have sm := same_low (m := m) (c := 20) (v := b) (by omega) (by omega)
    show OutLI row0 (m.set 20 b) (.on 0 false 2) p true step pre post a nx recs [d]
    refine ⟨?_, ?_⟩
    · obtain ⟨pre', post', p1, p2⟩ := li.fin (p0' := .on 0 false 2) (d := d) (m' := m.set 20 b) rfl rfl ((Lc_nil (by omega)).trans (Lc_nil (by omega)).symm) (fun rp r0 hr => by
        have hr2 : r0 = [] ∧ ((top m = bot m ∧ _) ∨ (top m = bot m + 1 ∧ rp = [])) := hr
        obtain ⟨e1, ⟨e2, _⟩ | ⟨_, e3⟩⟩ := hr2
        · omega
        · rw [e1, e3]; exact fits_pop0 d1 d4 d5) (d8 rfl) d6
      refine ⟨pre', post', p1, ?_⟩
      have : ([d].filter fun d => decide (d.err ≠ 9)) = [d] := by simp [d5]
      rw [this]
      exact p2
    · have hs2 : SI (m.set 20 b) (.on 0 false 2) a nx recs (step + 1) := si.keep (by rw [k2]; simp only [fli, Ph.fl, pnd]; simp; omega) (by rw [lp_eq rfl, Lc_nil (by omega)]; exact List.nil_sublist _) (by simp [pnd]) (pnd_le _) (fun _ _ h => by cases h) (Nat.le_succ _)
      exact hs2.add (fun h => d4) (fun h h2 => by rw [d4] at h2; cases h2) (fun h => by rw [d1] at h; cases h)
  | o3 b t =>
    rw [e] at hp li si hD
    injection hp with h1 h2 h3 h4
    subst h1 h2 h3 h4
    rw [(mk1 _ m).1, (mk1 _ m).2]
    rw [(mk1 _ m).2] at hD
    obtain rfl := recs_none hD rfl
    exact OutLI.quiet li si rfl rfl ⟨rfl, rfl⟩ (fun _ _ _ => rfl) (fun _ _ h => h) (fun _ _ h => by cases h)
  | o4 b t r =>
    rw [e] at hp hown li si hD htb
    obtain ⟨g1, g2, g3, g4, g5, g6⟩ := hown
    subst g6
    injection hp with h1 h2 h3 h4
    subst h1 h2 h3 h4
    rw [place_eq ly hr0 hr1 (by omega)] at hD ⊢
    rw [(mk1 _ m).1, (mk1 _ m).2]
    rw [(mk1 _ m).2] at hD
    simp only [Ph.add] at hD ⊢
    by_cases c1 : t = b - 1
    · rw [if_pos c1] at hD ⊢
      obtain rfl := recs_none hD rfl
      exact OutLI.quiet li si rfl rfl ⟨rfl, rfl⟩ (fun _ _ _ => rfl) (fun _ _ h => h) (fun _ _ h => by cases h)
    · rw [if_neg c1] at hD ⊢
      have hq := g5 (by omega)
      subst hq
      simp only [beff, Ph.fl] at htb
      simp at htb
      obtain ⟨d, rfl, d1, d2, d3, d4, d5, d6, d7, d8⟩ := recs_some hD rfl
      have hx : cel m (plc (whi m) (b - 1)) = rc m (whi m) (bot m) := by rw [g1]; rfl
      have hsub : (Lp m (.on (cel m (plc (whi m) (b - 1))) true 2)).Sublist (Lp m (.o4 b t (whi m))) := by
        rw [lp_eq rfl, lp_fl rfl]
        unfold Lc
        rw [show (bot m + 1 - top m).toNat = (bot m - top m).toNat + 1 by omega, rowM_snoc]
        exact List.sublist_append_left _ _
      have hmem : rc m (whi m) (bot m) ∈ Lp m (.o4 b t (whi m)) := by
        rw [lp_fl rfl, mem_rowM]
        exact ⟨bot m, by omega, by omega, rfl⟩
      have hbd := si.bd _ hmem
      refine ⟨?_, ?_⟩
      · obtain ⟨pre', post', p1, p2⟩ := li.fin (p0' := .on (cel m (plc (whi m) (b - 1))) true 2) (d := d) (m' := m) rfl rfl rfl (fun rp r0 hr => by
          have hr2 : rp = r0 ++ [rc m (whi m) (bot m)] := hr
          rw [hr2]
          exact fits_pop d1 d4 (by rw [d3, hx])) (d8 rfl) d6
        refine ⟨pre', post', p1, ?_⟩
        have : ([d].filter fun d => decide (d.err ≠ 9)) = [d] := by simp [d5]
        rw [this]
        exact p2
      · have hs2 : SI m (.on (cel m (plc (whi m) (b - 1))) true 2) a nx recs (step + 1) := si.keep (by simp only [fli, Ph.fl, pnd]; simp; omega) hsub (by simp [pnd]) (pnd_le _) (fun _ _ h => by cases h) (Nat.le_succ _)
        exact hs2.add (fun h => by rw [d1] at h; cases h) (fun h h2 => by rw [d3, hx]; simp [pnd] at hbd; exact hbd) (fun h => by rw [d1] at h; cases h)
  | o5 b x =>
    rw [e] at hp hown li si hD htb
    obtain ⟨g1, g2, g3, g4⟩ := hown
    injection hp with h1 h2 h3 h4
    subst h1 h2 h3 h4
    rw [(mk3 _ _ _ m).2] at hD
    rw [(mk3 _ _ _ m).1, (mk3 _ _ _ m).2, hdq]
    have hw : cel m 19 = top m := rfl
    rw [hw]
    obtain rfl := recs_none hD rfl
    have htt : top m ≤ b := by
      simp only [beff, Ph.fl] at htb
      cases q <;> simp at htb <;> omega
    by_cases hc : top m = b - 1
    · rw [if_pos hc]
      obtain ⟨k1, k2, k3⟩ := top_st (m := m) (v := b) (by omega)
      have sm := same_low (m := m) (c := 19) (v := b) (by omega) (by omega)
      simp only [hc, decide_true]
      show OutLI row0 (m.set 19 b) (.o6 b x true) p true step pre post a nx recs []
      have hmem : x ∈ Lp m (.o5 b x) := by
        rw [lp_fl rfl, mem_rowM]
        exact ⟨b - 1, by omega, by omega, g4.symm⟩
      have hbd := si.bd _ hmem
      simp [pnd] at hbd
      refine ⟨⟨pre, post, li.quiet (m' := m.set 19 b) (p0' := .o6 b x true) (q' := true) rfl ((Lc_nil (by omega)).trans (Lc_nil (by omega)).symm) ?_ (Nat.le_succ _), by simp⟩, ?_⟩
      · intro rp r0 hr
        show rp = r0 ++ [x]
        have hr2 : if q = true then (r0 = [] ∧ ((top m = bot m ∧ rp = [rc m (whi m) (bot m)]) ∨ (top m = bot m + 1 ∧ rp = []))) else rp = r0 ++ [rc m (whi m) (bot m)] := hr
        rw [g1, ← g4] at hr2
        cases q with
        | true =>
          simp only [if_true] at hr2
          obtain ⟨e1, ⟨_, e2⟩ | ⟨e3, _⟩⟩ := hr2
          · rw [e1, e2]; rfl
          · omega
        | false => simpa using hr2
      · refine si.keep (by rw [k2]; simp only [fli, Ph.fl, pnd]; omega) (by rw [lp_fl rfl, show (bot (m.set 19 b) + 1 - top (m.set 19 b)).toNat = 0 by omega]; exact List.nil_sublist _) (by simp [pnd]) (pnd_le _) (fun b' y h => by injection h with _ h _; rw [← h]; exact hbd) (Nat.le_succ _)
    · rw [if_neg hc]
      have htop : top m = b := by omega
      have hq : q = true := by
        simp only [beff, Ph.fl] at htb
        cases q
        · simp at htb; omega
        · rfl
      subst hq
      simp only [hc, decide_false]
      show OutLI row0 m (.o6 b x false) p true step pre post a nx recs []
      refine ⟨⟨pre, post, li.quiet (m' := m) (p0' := .o6 b x false) (q' := true) rfl rfl ?_ (Nat.le_succ _), by simp⟩, ?_⟩
      · intro rp r0 hr
        show rp = [] ∧ r0 = []
        have hr2 : r0 = [] ∧ ((top m = bot m ∧ _) ∨ (top m = bot m + 1 ∧ rp = [])) := hr
        obtain ⟨e1, ⟨e2, _⟩ | ⟨_, e3⟩⟩ := hr2
        · omega
        · exact ⟨e3, e1⟩
      · exact si.keep (by simp only [fli, Ph.fl, pnd]; omega) (List.Sublist.refl _) (by simp [pnd]) (pnd_le _) (fun b' y h => by injection h with _ _ h; cases h) (Nat.le_succ _)
  | o6 b x c' =>
    rw [e] at hp hown li si hD
    obtain ⟨g1, g2, g3⟩ := hown
    injection hp with h1 h2 h3 h4
    subst h1 h2 h3 h4
    rw [(mk2 _ _ m).1, (mk2 _ _ m).2, hdq]
    rw [(mk2 _ _ m).2] at hD
    obtain ⟨d, rfl, d1, d2, d3, d4, d5, d6, d7, d8⟩ := recs_some hD rfl
    obtain ⟨k1, k2, k3⟩ := bot_st (m := m) (v := b) (by omega)
    show OutLI row0 (m.set 20 b) (.on (if c' = true then x else 0) c' 5) p q step pre post a nx recs [d]
    refine ⟨?_, ?_⟩
    · obtain ⟨pre', post', p1, p2⟩ := li.fin (p0' := .on (if c' = true then x else 0) c' 5) (d := d) (m' := m.set 20 b) rfl rfl ((Lc_nil (by omega)).trans (Lc_nil (by omega)).symm) (fun rp r0 hr => by
        have hr2 : if c' = true then rp = r0 ++ [x] else (rp = [] ∧ r0 = []) := hr
        cases c' with
        | true =>
          simp only [if_true] at hr2 d3
          rw [hr2]
          exact fits_pop d1 d4 d3
        | false =>
          obtain ⟨e1, e2⟩ : rp = [] ∧ r0 = [] := by simpa using hr2
          rw [e1, e2]
          exact fits_pop0 d1 d4 d5) (d8 rfl) d6
      refine ⟨pre', post', p1, ?_⟩
      have : ([d].filter fun d => decide (d.err ≠ 9)) = [d] := by simp [d5]
      rw [this]
      exact p2
    · have hs2 : SI (m.set 20 b) (.on (if c' = true then x else 0) c' 5) a nx recs (step + 1) := si.keep (by rw [k2]; simp only [fli, Ph.fl, pnd]; simp; omega) (by rw [lp_eq rfl, Lc_nil (by omega)]; exact List.nil_sublist _) (by simp [pnd]) (pnd_le _) (fun _ _ h => by cases h) (Nat.le_succ _)
      refine hs2.add (fun h => by rw [d1] at h; cases h) (fun h h2 => ?_) (fun h => by rw [d1] at h; cases h)
      rw [d4] at h2
      subst h2
      rw [d3]
      exact si.w6 b x rfl
end
end Go.Proofs.Ytdjglkpcdhkodaa
