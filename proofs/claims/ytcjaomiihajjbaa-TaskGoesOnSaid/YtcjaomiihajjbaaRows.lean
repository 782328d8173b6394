/-
  No cell of these rows narrows 'for every input' (looked for: loops, veiled, ifaces, maps, wideKeys, modest, calm, conditions, laid).
  DERIVED. THE GIVEN ROWS OF THIS SEAT. 4 by the template 'for every input the law returns true; each argument reads behind the call as it read before'; 0 by the template 'total and deterministic' (their statements: YtcjaomiihajjbaaTotals.lean).
  GIVEN WITH THE SEED: the statements are not yours to turn. If you find one false, say at which input.
  Laid BY PROGRAM, IN A SANDBOX (cutbox-rows.mjs): the forced cells as the released guide's own fill.sh prints them over the translation 970afa35cd407207… (all of the seat's roots in one cut). By AI agents, Wed Nov 11 2026. No macro, syntax, notation, axiom, sorry.
-/
import Derived.Test.YtcjaomiihajjbaaChecked
import GoSem.Claim
import GoSem.ClaimJoined
import GoSem.ClaimMapViews
import Derived.JoinedTies
import Derived.KernelRfl
namespace Go.Proofs.Ytcjaomiihajjbaa
/- THE CELL 'sum', in the pinned program and in every row, IS THE sha256 OF THE DUMP (.gsa) THAT YtcjaomiihajjbaaProg.lean LOADS. Nothing in Lean hashes anything: it is a label: what it is worth is what the hold of that sum in a sandbox is worth. -/
noncomputable def Try.pinned : Pinned := { name := "ytcjaomiihajjbaa", sum := "970afa35cd4072075d346021950df327b89c361b51f2b6c71c008efc0397e409", checked := Try.checked }
namespace Rows
def none {H : Type} : Left H := { results := [], args := [] }

/-- 'underwoodlaw25.TaskNumbers': WHATEVER THE INPUT: true; the input reads as it did. -/
def taskNumbersSpec : ChangeSpec := { name := "taskNumbers", fn := fun _ => fun
  | [d1, d2, d3] => { results := [.lit (.bool true)], args := [d1, d2, d3] }
  | _ => none }
def taskNumbersRow : OpenClaim := { program := "ytcjaomiihajjbaa", sum := "970afa35cd4072075d346021950df327b89c361b51f2b6c71c008efc0397e409", func := "underwood/underwoodlaw25.TaskNumbers", spec := "taskNumbers", unfollowed := true, recurses := true, apart := false }
def TaskNumbersSaid : Prop := taskNumbersRow.holds Try.pinned (OpenSpec.ofChange taskNumbersSpec)

/-- ITS FALSE NEIGHBOUR: 'it returns false'. Refute it at one input. -/
def taskNumbersWrong : ChangeSpec := { name := "taskNumbers", fn := fun _ => fun
  | [d1, d2, d3] => { results := [.lit (.bool false)], args := [d1, d2, d3] }
  | _ => none }
def TaskNumbersWrongFalsely : Prop := taskNumbersRow.holds Try.pinned (OpenSpec.ofChange taskNumbersWrong)

/-- 'underwoodlaw25.TaskClaims': WHATEVER THE INPUT: true; the input reads as it did. -/
def taskClaimsSpec : ChangeSpec := { name := "taskClaims", fn := fun _ => fun
  | [d1, d2, d3] => { results := [.lit (.bool true)], args := [d1, d2, d3] }
  | _ => none }
def taskClaimsRow : OpenClaim := { program := "ytcjaomiihajjbaa", sum := "970afa35cd4072075d346021950df327b89c361b51f2b6c71c008efc0397e409", func := "underwood/underwoodlaw25.TaskClaims", spec := "taskClaims", unfollowed := true, recurses := true, apart := false }
def TaskClaimsSaid : Prop := taskClaimsRow.holds Try.pinned (OpenSpec.ofChange taskClaimsSpec)

/-- ITS FALSE NEIGHBOUR: 'it returns false'. Refute it at one input. -/
def taskClaimsWrong : ChangeSpec := { name := "taskClaims", fn := fun _ => fun
  | [d1, d2, d3] => { results := [.lit (.bool false)], args := [d1, d2, d3] }
  | _ => none }
def TaskClaimsWrongFalsely : Prop := taskClaimsRow.holds Try.pinned (OpenSpec.ofChange taskClaimsWrong)

/-- 'underwoodlaw25.TaskGoesOn': WHATEVER THE INPUT: true; the input reads as it did. -/
def taskGoesOnSpec : ChangeSpec := { name := "taskGoesOn", fn := fun _ => fun
  | [d1, d2] => { results := [.lit (.bool true)], args := [d1, d2] }
  | _ => none }
def taskGoesOnRow : OpenClaim := { program := "ytcjaomiihajjbaa", sum := "970afa35cd4072075d346021950df327b89c361b51f2b6c71c008efc0397e409", func := "underwood/underwoodlaw25.TaskGoesOn", spec := "taskGoesOn", unfollowed := true, recurses := true, apart := false }
def TaskGoesOnSaid : Prop := taskGoesOnRow.holds Try.pinned (OpenSpec.ofChange taskGoesOnSpec)

/-- ITS FALSE NEIGHBOUR: 'it returns false'. Refute it at one input. -/
def taskGoesOnWrong : ChangeSpec := { name := "taskGoesOn", fn := fun _ => fun
  | [d1, d2] => { results := [.lit (.bool false)], args := [d1, d2] }
  | _ => none }
def TaskGoesOnWrongFalsely : Prop := taskGoesOnRow.holds Try.pinned (OpenSpec.ofChange taskGoesOnWrong)

/-- 'underwoodlaw25.TaskTouches': WHATEVER THE INPUT: true; the input reads as it did. -/
def taskTouchesSpec : ChangeSpec := { name := "taskTouches", fn := fun _ => fun
  | [d] => { results := [.lit (.bool true)], args := [d] }
  | _ => none }
def taskTouchesRow : OpenClaim := { program := "ytcjaomiihajjbaa", sum := "970afa35cd4072075d346021950df327b89c361b51f2b6c71c008efc0397e409", func := "underwood/underwoodlaw25.TaskTouches", spec := "taskTouches", unfollowed := true, recurses := true, apart := false }
def TaskTouchesSaid : Prop := taskTouchesRow.holds Try.pinned (OpenSpec.ofChange taskTouchesSpec)

/-- ITS FALSE NEIGHBOUR: 'it returns false'. Refute it at one input. -/
def taskTouchesWrong : ChangeSpec := { name := "taskTouches", fn := fun _ => fun
  | [d] => { results := [.lit (.bool false)], args := [d] }
  | _ => none }
def TaskTouchesWrongFalsely : Prop := taskTouchesRow.holds Try.pinned (OpenSpec.ofChange taskTouchesWrong)

/- THE SECOND FORM. 'bulk': how many values and letters a reading holds, each counted each time it is reached (what is shared counts as often as it is met; a slice's spare places count too). A statement '..UptoSaid' is the law's where the arguments, and the package variables that the reading takes, are together of bulk at most 1048576: NARROWER than '..Said'. Prove '..Said' where nothing that the law and all that it calls make is longer than what came in: it says more and counts as full. Else prove '..UptoSaid'. A law counts once. -/
mutual
def uptoBulk {H : Type} : DataW H → Nat
  | .lit (.string bytes) => bytes.length + 1
  | .lit _ => 1
  | .nil => 1
  | .ptr d => uptoBulk d + 1
  | .slice elems spare => uptoBulkAll elems + uptoBulkAll spare + 1
  | .agg parts => uptoBulkAll parts + 1
  | .iface _ d => uptoBulk d + 1
  | .map entries => uptoBulkEntries entries + 1
  | .held _ => 1
def uptoBulkAll {H : Type} : List (DataW H) → Nat
  | [] => 0
  | d :: r => uptoBulk d + uptoBulkAll r
def uptoBulkEntries {H : Type} : List (Lit × DataW H) → Nat
  | [] => 0
  | x :: r => uptoBulkEntry x + uptoBulkEntries r
def uptoBulkEntry {H : Type} : Lit × DataW H → Nat
  | (.string bytes, d) => bytes.length + uptoBulk d + 1
  | (_, d) => uptoBulk d + 1
 end
def uptoSmall : (H : Type) → List (DataW H) → Bool := fun _ ds => decide (uptoBulkAll ds ≤ 1048576)
def OpenSpec.upto (s : _root_.Go.ChangeSpec) : _root_.Go.OpenSpec := { _root_.Go.OpenSpec.ofChange s with cond := some uptoSmall }

/-- 'underwoodlaw25.TaskNumbers', WHERE WHAT IT READS IS OF BULK AT MOST 1048576: true; the input reads as it did. -/
def taskNumbersUptoRow : OpenClaim := { program := "ytcjaomiihajjbaa", sum := "970afa35cd4072075d346021950df327b89c361b51f2b6c71c008efc0397e409", func := "underwood/underwoodlaw25.TaskNumbers", spec := "taskNumbers", unfollowed := true, recurses := true, apart := false, narrowed := true }
def TaskNumbersUptoSaid : Prop := taskNumbersUptoRow.holds Try.pinned (OpenSpec.upto taskNumbersSpec)

/-- 'underwoodlaw25.TaskClaims', WHERE WHAT IT READS IS OF BULK AT MOST 1048576: true; the input reads as it did. -/
def taskClaimsUptoRow : OpenClaim := { program := "ytcjaomiihajjbaa", sum := "970afa35cd4072075d346021950df327b89c361b51f2b6c71c008efc0397e409", func := "underwood/underwoodlaw25.TaskClaims", spec := "taskClaims", unfollowed := true, recurses := true, apart := false, narrowed := true }
def TaskClaimsUptoSaid : Prop := taskClaimsUptoRow.holds Try.pinned (OpenSpec.upto taskClaimsSpec)

/-- 'underwoodlaw25.TaskGoesOn', WHERE WHAT IT READS IS OF BULK AT MOST 1048576: true; the input reads as it did. -/
def taskGoesOnUptoRow : OpenClaim := { program := "ytcjaomiihajjbaa", sum := "970afa35cd4072075d346021950df327b89c361b51f2b6c71c008efc0397e409", func := "underwood/underwoodlaw25.TaskGoesOn", spec := "taskGoesOn", unfollowed := true, recurses := true, apart := false, narrowed := true }
def TaskGoesOnUptoSaid : Prop := taskGoesOnUptoRow.holds Try.pinned (OpenSpec.upto taskGoesOnSpec)

/-- 'underwoodlaw25.TaskTouches', WHERE WHAT IT READS IS OF BULK AT MOST 1048576: true; the input reads as it did. -/
def taskTouchesUptoRow : OpenClaim := { program := "ytcjaomiihajjbaa", sum := "970afa35cd4072075d346021950df327b89c361b51f2b6c71c008efc0397e409", func := "underwood/underwoodlaw25.TaskTouches", spec := "taskTouches", unfollowed := true, recurses := true, apart := false, narrowed := true }
def TaskTouchesUptoSaid : Prop := taskTouchesUptoRow.holds Try.pinned (OpenSpec.upto taskTouchesSpec)

end Rows
end Go.Proofs.Ytcjaomiihajjbaa
