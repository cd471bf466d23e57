/-
  Values of cell, in plain Lean. No program.
-/
import Derived.Test.YtgfjfpghjjknlaaDoorProg
import Derived.WalkKit
import Derived.ProofKit
import Derived.Below
import Derived.Lib.Hide
namespace Go.Proofs.YtgfjfpghjjknlaaDoor
open Go.RowKit
namespace Cl
/-- A value: its kind, its number, its text. -/
structure V where
  k : Int
  n : Int
  s : ByteArray
def vv (v : V) : Value := .agg #[.int .i64 v.k, .int .i64 v.n, .string v.s]
/-- Which value is right. -/
def right (v : V) : Bool :=
  if v.k = 0 then decide (v.n = 0) && v.s.toList.isEmpty
  else if v.k = 1 then v.s.toList.isEmpty
  else if v.k = 2 then (decide (v.n = 0) || decide (v.n = 1)) && v.s.toList.isEmpty
  else if v.k = 3 ∨ v.k = 4 then decide (v.n = 0) && decide (v.s.size ≤ 1000)
  else false
def tuple (l : List V) : Bool := decide (l.length ≤ 64) && l.all right
theorem toList_data (b : ByteArray) : b.toList = b.data.toList := by
  obtain ⟨⟨l⟩⟩ := b
  simp
end Cl
end Go.Proofs.YtgfjfpghjjknlaaDoor
