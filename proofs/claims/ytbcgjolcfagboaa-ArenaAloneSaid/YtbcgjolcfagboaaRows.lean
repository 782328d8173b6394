/-
  No cell of these rows narrows 'for every input' (looked for: loops, veiled, ifaces, maps, wideKeys, modest, calm, conditions, laid).
  DERIVED. THE GIVEN ROWS OF THIS SEAT. 4 by the template 'for every input the law returns true; each argument reads behind the call as it read before'; 0 by the template 'total and deterministic' (their statements: YtbcgjolcfagboaaTotals.lean).
  GIVEN WITH THE SEED: the statements are not yours to turn. If you find one false, say at which input.
  Laid BY PROGRAM, IN A SANDBOX (cutbox-rows.mjs): the forced cells as the released guide's own fill.sh prints them over the translation a04f9d478c481670… (all of the seat's roots in one cut). By AI agents, Wed Nov 11 2026. No macro, syntax, notation, axiom, sorry.
-/
import Derived.Test.YtbcgjolcfagboaaChecked
import GoSem.Claim
import GoSem.ClaimJoined
import GoSem.ClaimMapViews
import Derived.JoinedTies
import Derived.KernelRfl
namespace Go.Proofs.Ytbcgjolcfagboaa
/- THE CELL 'sum', in the pinned program and in every row, IS THE sha256 OF THE DUMP (.gsa) THAT YtbcgjolcfagboaaProg.lean LOADS. Nothing in Lean hashes anything: it is a label: what it is worth is what the hold of that sum in a sandbox is worth. -/
noncomputable def Try.pinned : Pinned := { name := "ytbcgjolcfagboaa", sum := "a04f9d478c48167042a1a5b8f1f3542a0bad68de98908af8a86ce7f274307119", checked := Try.checked }
namespace Rows
def none {H : Type} : Left H := { results := [], args := [] }

/-- 'underwoodlaw15.ArenaOnce': WHATEVER THE INPUT: true; the input reads as it did. -/
def arenaOnceSpec : ChangeSpec := { name := "arenaOnce", fn := fun _ => fun
  | [d] => { results := [.lit (.bool true)], args := [d] }
  | _ => none }
def arenaOnceRow : OpenClaim := { program := "ytbcgjolcfagboaa", sum := "a04f9d478c48167042a1a5b8f1f3542a0bad68de98908af8a86ce7f274307119", func := "underwood/underwoodlaw15.ArenaOnce", spec := "arenaOnce", unfollowed := true, recurses := true, apart := false }
def ArenaOnceSaid : Prop := arenaOnceRow.holds Try.pinned (OpenSpec.ofChange arenaOnceSpec)

/-- ITS FALSE NEIGHBOUR: 'it returns false'. Refute it at one input. -/
def arenaOnceWrong : ChangeSpec := { name := "arenaOnce", fn := fun _ => fun
  | [d] => { results := [.lit (.bool false)], args := [d] }
  | _ => none }
def ArenaOnceWrongFalsely : Prop := arenaOnceRow.holds Try.pinned (OpenSpec.ofChange arenaOnceWrong)

/-- 'underwoodlaw15.ArenaAlone': WHATEVER THE INPUT: true; the input reads as it did. -/
def arenaAloneSpec : ChangeSpec := { name := "arenaAlone", fn := fun _ => fun
  | [d1, d2] => { results := [.lit (.bool true)], args := [d1, d2] }
  | _ => none }
def arenaAloneRow : OpenClaim := { program := "ytbcgjolcfagboaa", sum := "a04f9d478c48167042a1a5b8f1f3542a0bad68de98908af8a86ce7f274307119", func := "underwood/underwoodlaw15.ArenaAlone", spec := "arenaAlone", unfollowed := true, recurses := true, apart := false }
def ArenaAloneSaid : Prop := arenaAloneRow.holds Try.pinned (OpenSpec.ofChange arenaAloneSpec)

/-- ITS FALSE NEIGHBOUR: 'it returns false'. Refute it at one input. -/
def arenaAloneWrong : ChangeSpec := { name := "arenaAlone", fn := fun _ => fun
  | [d1, d2] => { results := [.lit (.bool false)], args := [d1, d2] }
  | _ => none }
def ArenaAloneWrongFalsely : Prop := arenaAloneRow.holds Try.pinned (OpenSpec.ofChange arenaAloneWrong)

/-- 'underwoodlaw15.ArenaTouches': WHATEVER THE INPUT: true; the input reads as it did. -/
def arenaTouchesSpec : ChangeSpec := { name := "arenaTouches", fn := fun _ => fun
  | [d] => { results := [.lit (.bool true)], args := [d] }
  | _ => none }
def arenaTouchesRow : OpenClaim := { program := "ytbcgjolcfagboaa", sum := "a04f9d478c48167042a1a5b8f1f3542a0bad68de98908af8a86ce7f274307119", func := "underwood/underwoodlaw15.ArenaTouches", spec := "arenaTouches", unfollowed := true, recurses := true, apart := false }
def ArenaTouchesSaid : Prop := arenaTouchesRow.holds Try.pinned (OpenSpec.ofChange arenaTouchesSpec)

/-- ITS FALSE NEIGHBOUR: 'it returns false'. Refute it at one input. -/
def arenaTouchesWrong : ChangeSpec := { name := "arenaTouches", fn := fun _ => fun
  | [d] => { results := [.lit (.bool false)], args := [d] }
  | _ => none }
def ArenaTouchesWrongFalsely : Prop := arenaTouchesRow.holds Try.pinned (OpenSpec.ofChange arenaTouchesWrong)

/-- 'underwoodlaw15.ArenaPassed': WHATEVER THE INPUT: true; the input reads as it did. -/
def arenaPassedSpec : ChangeSpec := { name := "arenaPassed", fn := fun _ => fun
  | [d] => { results := [.lit (.bool true)], args := [d] }
  | _ => none }
def arenaPassedRow : OpenClaim := { program := "ytbcgjolcfagboaa", sum := "a04f9d478c48167042a1a5b8f1f3542a0bad68de98908af8a86ce7f274307119", func := "underwood/underwoodlaw15.ArenaPassed", spec := "arenaPassed", unfollowed := true, recurses := true, apart := false }
def ArenaPassedSaid : Prop := arenaPassedRow.holds Try.pinned (OpenSpec.ofChange arenaPassedSpec)

/-- ITS FALSE NEIGHBOUR: 'it returns false'. Refute it at one input. -/
def arenaPassedWrong : ChangeSpec := { name := "arenaPassed", fn := fun _ => fun
  | [d] => { results := [.lit (.bool false)], args := [d] }
  | _ => none }
def ArenaPassedWrongFalsely : Prop := arenaPassedRow.holds Try.pinned (OpenSpec.ofChange arenaPassedWrong)

/- THE SECOND FORM. 'bulk': how many values and letters a reading holds, each counted each time it is reached (what is shared counts as often as it is met; a slice's spare places count too). A statement '..UptoSaid' is the law's where the arguments, and the package variables that the reading takes, are together of bulk at most 1048576: NARROWER than '..Said'. Prove '..Said' where nothing that the law and all that it calls make is longer than what came in: it says more and counts as full. Else prove '..UptoSaid'. A law counts once. -/
mutual
def uptoBulk {H : Type} : DataW H → Nat
  | .lit (.string bytes) => bytes.length + 1
  | .lit _ => 1
  | .nil => 1
  | .ptr d => uptoBulk d + 1
  | .slice elems spare => uptoBulkAll elems + uptoBulkAll spare + 1
  | .agg parts => uptoBulkAll parts + 1
  | .iface _ d => uptoBulk d + 1
  | .map entries => uptoBulkEntries entries + 1
  | .held _ => 1
def uptoBulkAll {H : Type} : List (DataW H) → Nat
  | [] => 0
  | d :: r => uptoBulk d + uptoBulkAll r
def uptoBulkEntries {H : Type} : List (Lit × DataW H) → Nat
  | [] => 0
  | x :: r => uptoBulkEntry x + uptoBulkEntries r
def uptoBulkEntry {H : Type} : Lit × DataW H → Nat
  | (.string bytes, d) => bytes.length + uptoBulk d + 1
  | (_, d) => uptoBulk d + 1
 end
def uptoSmall : (H : Type) → List (DataW H) → Bool := fun _ ds => decide (uptoBulkAll ds ≤ 1048576)
def OpenSpec.upto (s : _root_.Go.ChangeSpec) : _root_.Go.OpenSpec := { _root_.Go.OpenSpec.ofChange s with cond := some uptoSmall }

/-- 'underwoodlaw15.ArenaOnce', WHERE WHAT IT READS IS OF BULK AT MOST 1048576: true; the input reads as it did. -/
def arenaOnceUptoRow : OpenClaim := { program := "ytbcgjolcfagboaa", sum := "a04f9d478c48167042a1a5b8f1f3542a0bad68de98908af8a86ce7f274307119", func := "underwood/underwoodlaw15.ArenaOnce", spec := "arenaOnce", unfollowed := true, recurses := true, apart := false, narrowed := true }
def ArenaOnceUptoSaid : Prop := arenaOnceUptoRow.holds Try.pinned (OpenSpec.upto arenaOnceSpec)

/-- 'underwoodlaw15.ArenaAlone', WHERE WHAT IT READS IS OF BULK AT MOST 1048576: true; the input reads as it did. -/
def arenaAloneUptoRow : OpenClaim := { program := "ytbcgjolcfagboaa", sum := "a04f9d478c48167042a1a5b8f1f3542a0bad68de98908af8a86ce7f274307119", func := "underwood/underwoodlaw15.ArenaAlone", spec := "arenaAlone", unfollowed := true, recurses := true, apart := false, narrowed := true }
def ArenaAloneUptoSaid : Prop := arenaAloneUptoRow.holds Try.pinned (OpenSpec.upto arenaAloneSpec)

/-- 'underwoodlaw15.ArenaTouches', WHERE WHAT IT READS IS OF BULK AT MOST 1048576: true; the input reads as it did. -/
def arenaTouchesUptoRow : OpenClaim := { program := "ytbcgjolcfagboaa", sum := "a04f9d478c48167042a1a5b8f1f3542a0bad68de98908af8a86ce7f274307119", func := "underwood/underwoodlaw15.ArenaTouches", spec := "arenaTouches", unfollowed := true, recurses := true, apart := false, narrowed := true }
def ArenaTouchesUptoSaid : Prop := arenaTouchesUptoRow.holds Try.pinned (OpenSpec.upto arenaTouchesSpec)

/-- 'underwoodlaw15.ArenaPassed', WHERE WHAT IT READS IS OF BULK AT MOST 1048576: true; the input reads as it did. -/
def arenaPassedUptoRow : OpenClaim := { program := "ytbcgjolcfagboaa", sum := "a04f9d478c48167042a1a5b8f1f3542a0bad68de98908af8a86ce7f274307119", func := "underwood/underwoodlaw15.ArenaPassed", spec := "arenaPassed", unfollowed := true, recurses := true, apart := false, narrowed := true }
def ArenaPassedUptoSaid : Prop := arenaPassedUptoRow.holds Try.pinned (OpenSpec.upto arenaPassedSpec)

end Rows
end Go.Proofs.Ytbcgjolcfagboaa
