/-
  No cell of these rows narrows 'for every input' (looked for: loops, veiled, ifaces, maps, wideKeys, modest, calm, conditions, laid).
  DERIVED. THE GIVEN ROWS OF THIS SEAT. 5 by the template 'for every input the law returns true; each argument reads behind the call as it read before'; 0 by the template 'total and deterministic' (their statements: YtdjglkpcdhkodaaTotals.lean).
  GIVEN WITH THE SEED: the statements are not yours to turn. If you find one false, say at which input.
  Laid BY PROGRAM, IN A SANDBOX (cutbox-rows.mjs): the forced cells as the released guide's own fill.sh prints them over the translation 5133c68dd6132628… (all of the seat's roots in one cut). By AI agents, Wed Nov 11 2026. No macro, syntax, notation, axiom, sorry.
-/
import Derived.Test.YtdjglkpcdhkodaaChecked
import GoSem.Claim
import GoSem.ClaimJoined
import GoSem.ClaimMapViews
import Derived.JoinedTies
import Derived.KernelRfl
namespace Go.Proofs.Ytdjglkpcdhkodaa
/- THE CELL 'sum', in the pinned program and in every row, IS THE sha256 OF THE DUMP (.gsa) THAT YtdjglkpcdhkodaaProg.lean LOADS. Nothing in Lean hashes anything: it is a label: what it is worth is what the hold of that sum in a sandbox is worth. -/
noncomputable def Try.pinned : Pinned := { name := "ytdjglkpcdhkodaa", sum := "5133c68dd6132628bacae3eb6ba32c0088877c63df2374ae08d6f7af7b7f8f49", checked := Try.checked }
namespace Rows
def none {H : Type} : Left H := { results := [], args := [] }

/-- 'underwoodlaw18.DequeOnce': WHATEVER THE INPUT: true; the input reads as it did. -/
def dequeOnceSpec : ChangeSpec := { name := "dequeOnce", fn := fun _ => fun
  | [d] => { results := [.lit (.bool true)], args := [d] }
  | _ => none }
def dequeOnceRow : OpenClaim := { program := "ytdjglkpcdhkodaa", sum := "5133c68dd6132628bacae3eb6ba32c0088877c63df2374ae08d6f7af7b7f8f49", func := "underwood/underwoodlaw18.DequeOnce", spec := "dequeOnce", unfollowed := true, recurses := true, apart := false }
def DequeOnceSaid : Prop := dequeOnceRow.holds Try.pinned (OpenSpec.ofChange dequeOnceSpec)

/-- ITS FALSE NEIGHBOUR: 'it returns false'. Refute it at one input. -/
def dequeOnceWrong : ChangeSpec := { name := "dequeOnce", fn := fun _ => fun
  | [d] => { results := [.lit (.bool false)], args := [d] }
  | _ => none }
def DequeOnceWrongFalsely : Prop := dequeOnceRow.holds Try.pinned (OpenSpec.ofChange dequeOnceWrong)

/-- 'underwoodlaw18.DequeSteals': WHATEVER THE INPUT: true; the input reads as it did. -/
def dequeStealsSpec : ChangeSpec := { name := "dequeSteals", fn := fun _ => fun
  | [d] => { results := [.lit (.bool true)], args := [d] }
  | _ => none }
def dequeStealsRow : OpenClaim := { program := "ytdjglkpcdhkodaa", sum := "5133c68dd6132628bacae3eb6ba32c0088877c63df2374ae08d6f7af7b7f8f49", func := "underwood/underwoodlaw18.DequeSteals", spec := "dequeSteals", unfollowed := true, recurses := true, apart := false }
def DequeStealsSaid : Prop := dequeStealsRow.holds Try.pinned (OpenSpec.ofChange dequeStealsSpec)

/-- ITS FALSE NEIGHBOUR: 'it returns false'. Refute it at one input. -/
def dequeStealsWrong : ChangeSpec := { name := "dequeSteals", fn := fun _ => fun
  | [d] => { results := [.lit (.bool false)], args := [d] }
  | _ => none }
def DequeStealsWrongFalsely : Prop := dequeStealsRow.holds Try.pinned (OpenSpec.ofChange dequeStealsWrong)

/-- 'underwoodlaw18.DequeLin': WHATEVER THE INPUT: true; the input reads as it did. -/
def dequeLinSpec : ChangeSpec := { name := "dequeLin", fn := fun _ => fun
  | [d] => { results := [.lit (.bool true)], args := [d] }
  | _ => none }
def dequeLinRow : OpenClaim := { program := "ytdjglkpcdhkodaa", sum := "5133c68dd6132628bacae3eb6ba32c0088877c63df2374ae08d6f7af7b7f8f49", func := "underwood/underwoodlaw18.DequeLin", spec := "dequeLin", unfollowed := true, recurses := true, apart := false }
def DequeLinSaid : Prop := dequeLinRow.holds Try.pinned (OpenSpec.ofChange dequeLinSpec)

/-- ITS FALSE NEIGHBOUR: 'it returns false'. Refute it at one input. -/
def dequeLinWrong : ChangeSpec := { name := "dequeLin", fn := fun _ => fun
  | [d] => { results := [.lit (.bool false)], args := [d] }
  | _ => none }
def DequeLinWrongFalsely : Prop := dequeLinRow.holds Try.pinned (OpenSpec.ofChange dequeLinWrong)

/-- 'underwoodlaw18.DequeSolo': WHATEVER THE INPUT: true; the input reads as it did. -/
def dequeSoloSpec : ChangeSpec := { name := "dequeSolo", fn := fun _ => fun
  | [d1, d2] => { results := [.lit (.bool true)], args := [d1, d2] }
  | _ => none }
def dequeSoloRow : OpenClaim := { program := "ytdjglkpcdhkodaa", sum := "5133c68dd6132628bacae3eb6ba32c0088877c63df2374ae08d6f7af7b7f8f49", func := "underwood/underwoodlaw18.DequeSolo", spec := "dequeSolo", unfollowed := true, recurses := true, apart := false }
def DequeSoloSaid : Prop := dequeSoloRow.holds Try.pinned (OpenSpec.ofChange dequeSoloSpec)

/-- ITS FALSE NEIGHBOUR: 'it returns false'. Refute it at one input. -/
def dequeSoloWrong : ChangeSpec := { name := "dequeSolo", fn := fun _ => fun
  | [d1, d2] => { results := [.lit (.bool false)], args := [d1, d2] }
  | _ => none }
def DequeSoloWrongFalsely : Prop := dequeSoloRow.holds Try.pinned (OpenSpec.ofChange dequeSoloWrong)

/-- 'underwoodlaw18.DequeLast': WHATEVER THE INPUT: true; the input reads as it did. -/
def dequeLastSpec : ChangeSpec := { name := "dequeLast", fn := fun _ => fun
  | [d1, d2] => { results := [.lit (.bool true)], args := [d1, d2] }
  | _ => none }
def dequeLastRow : OpenClaim := { program := "ytdjglkpcdhkodaa", sum := "5133c68dd6132628bacae3eb6ba32c0088877c63df2374ae08d6f7af7b7f8f49", func := "underwood/underwoodlaw18.DequeLast", spec := "dequeLast", unfollowed := true, recurses := true, apart := false }
def DequeLastSaid : Prop := dequeLastRow.holds Try.pinned (OpenSpec.ofChange dequeLastSpec)

/-- ITS FALSE NEIGHBOUR: 'it returns false'. Refute it at one input. -/
def dequeLastWrong : ChangeSpec := { name := "dequeLast", fn := fun _ => fun
  | [d1, d2] => { results := [.lit (.bool false)], args := [d1, d2] }
  | _ => none }
def DequeLastWrongFalsely : Prop := dequeLastRow.holds Try.pinned (OpenSpec.ofChange dequeLastWrong)

/- THE SECOND FORM. 'bulk': how many values and letters a reading holds, each counted each time it is reached (what is shared counts as often as it is met; a slice's spare places count too). A statement '..UptoSaid' is the law's where the arguments, and the package variables that the reading takes, are together of bulk at most 1048576: NARROWER than '..Said'. Prove '..Said' where nothing that the law and all that it calls make is longer than what came in: it says more and counts as full. Else prove '..UptoSaid'. A law counts once. -/
mutual
def uptoBulk {H : Type} : DataW H → Nat
  | .lit (.string bytes) => bytes.length + 1
  | .lit _ => 1
  | .nil => 1
  | .ptr d => uptoBulk d + 1
  | .slice elems spare => uptoBulkAll elems + uptoBulkAll spare + 1
  | .agg parts => uptoBulkAll parts + 1
  | .iface _ d => uptoBulk d + 1
  | .map entries => uptoBulkEntries entries + 1
  | .held _ => 1
def uptoBulkAll {H : Type} : List (DataW H) → Nat
  | [] => 0
  | d :: r => uptoBulk d + uptoBulkAll r
def uptoBulkEntries {H : Type} : List (Lit × DataW H) → Nat
  | [] => 0
  | x :: r => uptoBulkEntry x + uptoBulkEntries r
def uptoBulkEntry {H : Type} : Lit × DataW H → Nat
  | (.string bytes, d) => bytes.length + uptoBulk d + 1
  | (_, d) => uptoBulk d + 1
 end
def uptoSmall : (H : Type) → List (DataW H) → Bool := fun _ ds => decide (uptoBulkAll ds ≤ 1048576)
def OpenSpec.upto (s : _root_.Go.ChangeSpec) : _root_.Go.OpenSpec := { _root_.Go.OpenSpec.ofChange s with cond := some uptoSmall }

/-- 'underwoodlaw18.DequeOnce', WHERE WHAT IT READS IS OF BULK AT MOST 1048576: true; the input reads as it did. -/
def dequeOnceUptoRow : OpenClaim := { program := "ytdjglkpcdhkodaa", sum := "5133c68dd6132628bacae3eb6ba32c0088877c63df2374ae08d6f7af7b7f8f49", func := "underwood/underwoodlaw18.DequeOnce", spec := "dequeOnce", unfollowed := true, recurses := true, apart := false, narrowed := true }
def DequeOnceUptoSaid : Prop := dequeOnceUptoRow.holds Try.pinned (OpenSpec.upto dequeOnceSpec)

/-- 'underwoodlaw18.DequeSteals', WHERE WHAT IT READS IS OF BULK AT MOST 1048576: true; the input reads as it did. -/
def dequeStealsUptoRow : OpenClaim := { program := "ytdjglkpcdhkodaa", sum := "5133c68dd6132628bacae3eb6ba32c0088877c63df2374ae08d6f7af7b7f8f49", func := "underwood/underwoodlaw18.DequeSteals", spec := "dequeSteals", unfollowed := true, recurses := true, apart := false, narrowed := true }
def DequeStealsUptoSaid : Prop := dequeStealsUptoRow.holds Try.pinned (OpenSpec.upto dequeStealsSpec)

/-- 'underwoodlaw18.DequeLin', WHERE WHAT IT READS IS OF BULK AT MOST 1048576: true; the input reads as it did. -/
def dequeLinUptoRow : OpenClaim := { program := "ytdjglkpcdhkodaa", sum := "5133c68dd6132628bacae3eb6ba32c0088877c63df2374ae08d6f7af7b7f8f49", func := "underwood/underwoodlaw18.DequeLin", spec := "dequeLin", unfollowed := true, recurses := true, apart := false, narrowed := true }
def DequeLinUptoSaid : Prop := dequeLinUptoRow.holds Try.pinned (OpenSpec.upto dequeLinSpec)

/-- 'underwoodlaw18.DequeSolo', WHERE WHAT IT READS IS OF BULK AT MOST 1048576: true; the input reads as it did. -/
def dequeSoloUptoRow : OpenClaim := { program := "ytdjglkpcdhkodaa", sum := "5133c68dd6132628bacae3eb6ba32c0088877c63df2374ae08d6f7af7b7f8f49", func := "underwood/underwoodlaw18.DequeSolo", spec := "dequeSolo", unfollowed := true, recurses := true, apart := false, narrowed := true }
def DequeSoloUptoSaid : Prop := dequeSoloUptoRow.holds Try.pinned (OpenSpec.upto dequeSoloSpec)

/-- 'underwoodlaw18.DequeLast', WHERE WHAT IT READS IS OF BULK AT MOST 1048576: true; the input reads as it did. -/
def dequeLastUptoRow : OpenClaim := { program := "ytdjglkpcdhkodaa", sum := "5133c68dd6132628bacae3eb6ba32c0088877c63df2374ae08d6f7af7b7f8f49", func := "underwood/underwoodlaw18.DequeLast", spec := "dequeLast", unfollowed := true, recurses := true, apart := false, narrowed := true }
def DequeLastUptoSaid : Prop := dequeLastUptoRow.holds Try.pinned (OpenSpec.upto dequeLastSpec)

end Rows
end Go.Proofs.Ytdjglkpcdhkodaa
