/-
  No cell of these rows narrows 'for every input' (looked for: loops, veiled, ifaces, maps, wideKeys, modest, calm, conditions, laid).
  DERIVED. THE GIVEN ROWS OF THIS SEAT. 4 by the template 'for every input the law returns true; each argument reads behind the call as it read before'; 0 by the template 'total and deterministic' (their statements: YtgjdjgainjedhaaTotals.lean).
  GIVEN WITH THE SEED: the statements are not yours to turn. If you find one false, say at which input.
  Laid BY PROGRAM, IN A SANDBOX (cutbox-rows.mjs): the forced cells as the released guide's own fill.sh prints them over the translation 27f5f1f820793322… (all of the seat's roots in one cut). By AI agents, Wed Nov 11 2026. No macro, syntax, notation, axiom, sorry.
-/
import Derived.Test.YtgjdjgainjedhaaChecked
import GoSem.Claim
import GoSem.ClaimJoined
import GoSem.ClaimMapViews
import Derived.JoinedTies
import Derived.KernelRfl
namespace Go.Proofs.Ytgjdjgainjedhaa
/- THE CELL 'sum', in the pinned program and in every row, IS THE sha256 OF THE DUMP (.gsa) THAT YtgjdjgainjedhaaProg.lean LOADS. Nothing in Lean hashes anything: it is a label: what it is worth is what the hold of that sum in a sandbox is worth. -/
noncomputable def Try.pinned : Pinned := { name := "ytgjdjgainjedhaa", sum := "27f5f1f820793322d740a1830985ac35ae63df27277ece17f78721049d2f9bea", checked := Try.checked }
namespace Rows
def none {H : Type} : Left H := { results := [], args := [] }

/-- 'underwoodlaw16.EraSafe': WHATEVER THE INPUT: true; the input reads as it did. -/
def eraSafeSpec : ChangeSpec := { name := "eraSafe", fn := fun _ => fun
  | [d] => { results := [.lit (.bool true)], args := [d] }
  | _ => none }
def eraSafeRow : OpenClaim := { program := "ytgjdjgainjedhaa", sum := "27f5f1f820793322d740a1830985ac35ae63df27277ece17f78721049d2f9bea", func := "underwood/underwoodlaw16.EraSafe", spec := "eraSafe", unfollowed := true, recurses := true, apart := false }
def EraSafeSaid : Prop := eraSafeRow.holds Try.pinned (OpenSpec.ofChange eraSafeSpec)

/-- ITS FALSE NEIGHBOUR: 'it returns false'. Refute it at one input. -/
def eraSafeWrong : ChangeSpec := { name := "eraSafe", fn := fun _ => fun
  | [d] => { results := [.lit (.bool false)], args := [d] }
  | _ => none }
def EraSafeWrongFalsely : Prop := eraSafeRow.holds Try.pinned (OpenSpec.ofChange eraSafeWrong)

/-- 'underwoodlaw16.EraWhole': WHATEVER THE INPUT: true; the input reads as it did. -/
def eraWholeSpec : ChangeSpec := { name := "eraWhole", fn := fun _ => fun
  | [d] => { results := [.lit (.bool true)], args := [d] }
  | _ => none }
def eraWholeRow : OpenClaim := { program := "ytgjdjgainjedhaa", sum := "27f5f1f820793322d740a1830985ac35ae63df27277ece17f78721049d2f9bea", func := "underwood/underwoodlaw16.EraWhole", spec := "eraWhole", unfollowed := true, recurses := true, apart := false }
def EraWholeSaid : Prop := eraWholeRow.holds Try.pinned (OpenSpec.ofChange eraWholeSpec)

/-- ITS FALSE NEIGHBOUR: 'it returns false'. Refute it at one input. -/
def eraWholeWrong : ChangeSpec := { name := "eraWhole", fn := fun _ => fun
  | [d] => { results := [.lit (.bool false)], args := [d] }
  | _ => none }
def EraWholeWrongFalsely : Prop := eraWholeRow.holds Try.pinned (OpenSpec.ofChange eraWholeWrong)

/-- 'underwoodlaw16.EraGuards': WHATEVER THE INPUT: true; the input reads as it did. -/
def eraGuardsSpec : ChangeSpec := { name := "eraGuards", fn := fun _ => fun
  | [d] => { results := [.lit (.bool true)], args := [d] }
  | _ => none }
def eraGuardsRow : OpenClaim := { program := "ytgjdjgainjedhaa", sum := "27f5f1f820793322d740a1830985ac35ae63df27277ece17f78721049d2f9bea", func := "underwood/underwoodlaw16.EraGuards", spec := "eraGuards", unfollowed := true, recurses := true, apart := false }
def EraGuardsSaid : Prop := eraGuardsRow.holds Try.pinned (OpenSpec.ofChange eraGuardsSpec)

/-- ITS FALSE NEIGHBOUR: 'it returns false'. Refute it at one input. -/
def eraGuardsWrong : ChangeSpec := { name := "eraGuards", fn := fun _ => fun
  | [d] => { results := [.lit (.bool false)], args := [d] }
  | _ => none }
def EraGuardsWrongFalsely : Prop := eraGuardsRow.holds Try.pinned (OpenSpec.ofChange eraGuardsWrong)

/-- 'underwoodlaw16.EraCounts': WHATEVER THE INPUT: true; the input reads as it did. -/
def eraCountsSpec : ChangeSpec := { name := "eraCounts", fn := fun _ => fun
  | [d] => { results := [.lit (.bool true)], args := [d] }
  | _ => none }
def eraCountsRow : OpenClaim := { program := "ytgjdjgainjedhaa", sum := "27f5f1f820793322d740a1830985ac35ae63df27277ece17f78721049d2f9bea", func := "underwood/underwoodlaw16.EraCounts", spec := "eraCounts", unfollowed := true, recurses := true, apart := false }
def EraCountsSaid : Prop := eraCountsRow.holds Try.pinned (OpenSpec.ofChange eraCountsSpec)

/-- ITS FALSE NEIGHBOUR: 'it returns false'. Refute it at one input. -/
def eraCountsWrong : ChangeSpec := { name := "eraCounts", fn := fun _ => fun
  | [d] => { results := [.lit (.bool false)], args := [d] }
  | _ => none }
def EraCountsWrongFalsely : Prop := eraCountsRow.holds Try.pinned (OpenSpec.ofChange eraCountsWrong)

/- THE SECOND FORM. 'bulk': how many values and letters a reading holds, each counted each time it is reached (what is shared counts as often as it is met; a slice's spare places count too). A statement '..UptoSaid' is the law's where the arguments, and the package variables that the reading takes, are together of bulk at most 1048576: NARROWER than '..Said'. Prove '..Said' where nothing that the law and all that it calls make is longer than what came in: it says more and counts as full. Else prove '..UptoSaid'. A law counts once. -/
mutual
def uptoBulk {H : Type} : DataW H → Nat
  | .lit (.string bytes) => bytes.length + 1
  | .lit _ => 1
  | .nil => 1
  | .ptr d => uptoBulk d + 1
  | .slice elems spare => uptoBulkAll elems + uptoBulkAll spare + 1
  | .agg parts => uptoBulkAll parts + 1
  | .iface _ d => uptoBulk d + 1
  | .map entries => uptoBulkEntries entries + 1
  | .held _ => 1
def uptoBulkAll {H : Type} : List (DataW H) → Nat
  | [] => 0
  | d :: r => uptoBulk d + uptoBulkAll r
def uptoBulkEntries {H : Type} : List (Lit × DataW H) → Nat
  | [] => 0
  | x :: r => uptoBulkEntry x + uptoBulkEntries r
def uptoBulkEntry {H : Type} : Lit × DataW H → Nat
  | (.string bytes, d) => bytes.length + uptoBulk d + 1
  | (_, d) => uptoBulk d + 1
 end
def uptoSmall : (H : Type) → List (DataW H) → Bool := fun _ ds => decide (uptoBulkAll ds ≤ 1048576)
def OpenSpec.upto (s : _root_.Go.ChangeSpec) : _root_.Go.OpenSpec := { _root_.Go.OpenSpec.ofChange s with cond := some uptoSmall }

/-- 'underwoodlaw16.EraSafe', WHERE WHAT IT READS IS OF BULK AT MOST 1048576: true; the input reads as it did. -/
def eraSafeUptoRow : OpenClaim := { program := "ytgjdjgainjedhaa", sum := "27f5f1f820793322d740a1830985ac35ae63df27277ece17f78721049d2f9bea", func := "underwood/underwoodlaw16.EraSafe", spec := "eraSafe", unfollowed := true, recurses := true, apart := false, narrowed := true }
def EraSafeUptoSaid : Prop := eraSafeUptoRow.holds Try.pinned (OpenSpec.upto eraSafeSpec)

/-- 'underwoodlaw16.EraWhole', WHERE WHAT IT READS IS OF BULK AT MOST 1048576: true; the input reads as it did. -/
def eraWholeUptoRow : OpenClaim := { program := "ytgjdjgainjedhaa", sum := "27f5f1f820793322d740a1830985ac35ae63df27277ece17f78721049d2f9bea", func := "underwood/underwoodlaw16.EraWhole", spec := "eraWhole", unfollowed := true, recurses := true, apart := false, narrowed := true }
def EraWholeUptoSaid : Prop := eraWholeUptoRow.holds Try.pinned (OpenSpec.upto eraWholeSpec)

/-- 'underwoodlaw16.EraGuards', WHERE WHAT IT READS IS OF BULK AT MOST 1048576: true; the input reads as it did. -/
def eraGuardsUptoRow : OpenClaim := { program := "ytgjdjgainjedhaa", sum := "27f5f1f820793322d740a1830985ac35ae63df27277ece17f78721049d2f9bea", func := "underwood/underwoodlaw16.EraGuards", spec := "eraGuards", unfollowed := true, recurses := true, apart := false, narrowed := true }
def EraGuardsUptoSaid : Prop := eraGuardsUptoRow.holds Try.pinned (OpenSpec.upto eraGuardsSpec)

/-- 'underwoodlaw16.EraCounts', WHERE WHAT IT READS IS OF BULK AT MOST 1048576: true; the input reads as it did. -/
def eraCountsUptoRow : OpenClaim := { program := "ytgjdjgainjedhaa", sum := "27f5f1f820793322d740a1830985ac35ae63df27277ece17f78721049d2f9bea", func := "underwood/underwoodlaw16.EraCounts", spec := "eraCounts", unfollowed := true, recurses := true, apart := false, narrowed := true }
def EraCountsUptoSaid : Prop := eraCountsUptoRow.holds Try.pinned (OpenSpec.upto eraCountsSpec)

end Rows
end Go.Proofs.Ytgjdjgainjedhaa
