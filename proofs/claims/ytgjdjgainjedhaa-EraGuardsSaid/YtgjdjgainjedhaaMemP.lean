/- What an access makes and tells, in plain numbers: no program in sight. -/
import Derived.Test.YtgjdjgainjedhaaOpen
namespace Go.Proofs.Ytgjdjgainjedhaa
open Go.RowKit

structure Acc where
  kind : Int
  cell : Int
  old : Int
  new : Int

def Acc.right (a : Acc) : Bool :=
  decide (0 ≤ a.cell) && ((a.kind == 1 && a.new == 0 && a.old == 0) || ((a.kind == 2 || a.kind == 4 || a.kind == 5) && a.old == 0) || a.kind == 3)
/-- The code of an access of so many cells: OK, ErrArg or ErrWild. -/
def Acc.err (a : Acc) (n : Nat) : Int := if a.right = true then (if a.cell < n then 0 else 12) else 1
/-- What the cell has behind the access. -/
def Acc.next (a : Acc) (had : Int) : Int :=
  if a.kind = 1 then had else if a.kind = 3 then (if had = a.old then a.new else had) else if a.kind = 4 then wrap64 (had + a.new) else a.new
/-- Whether it went. -/
def Acc.ok (a : Acc) (had : Int) : Bool := !(a.kind == 3 && had != a.old)
def Acc.had (a : Acc) (zs : List Int) : Int := zs.getD a.cell.toNat 0
def Acc.make (a : Acc) (zs : List Int) : List Int := zs.set a.cell.toNat (a.next (a.had zs))

theorem Acc.right_cell {a : Acc} (h : a.right = true) : 0 ≤ a.cell := by
  simp [Acc.right] at h; exact h.1
theorem Acc.err_ok {a : Acc} {n : Nat} (h : a.err n = 0) : a.right = true ∧ 0 ≤ a.cell ∧ a.cell < n := by
  unfold Acc.err at h
  split at h
  · rename_i hr
    split at h
    · exact ⟨hr, Acc.right_cell hr, by assumption⟩
    · omega
  · omega
theorem Acc.make_length (a : Acc) (zs : List Int) : (a.make zs).length = zs.length := by simp [Acc.make]

abbrev accV (a : Acc) : Value := .agg #[.int .i64 a.kind, .int .i64 a.cell, .int .i64 a.old, .int .i64 a.new]
abbrev resV (val : Int) (ok : Bool) : Value := .agg #[.int .i64 val, .bool ok]
abbrev memV (A : Option Addr) (n c : Nat) : Value := .agg #[.slice A n c]
end Go.Proofs.Ytgjdjgainjedhaa
