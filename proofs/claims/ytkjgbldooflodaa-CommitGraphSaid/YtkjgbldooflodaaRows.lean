/-
  No cell of these rows narrows 'for every input' (looked for: loops, veiled, ifaces, maps, wideKeys, modest, calm, conditions, laid).
  DERIVED. THE GIVEN ROWS OF THIS SEAT. 6 by the template 'for every input the law returns true; each argument reads behind the call as it read before'; 0 by the template 'total and deterministic' (their statements: YtkjgbldooflodaaTotals.lean).
  GIVEN WITH THE SEED: the statements are not yours to turn. If you find one false, say at which input.
  Laid BY PROGRAM, IN A SANDBOX (cutbox-rows.mjs): the forced cells as the released guide's own fill.sh prints them over the translation 79f0393d8c7c6168… (all of the seat's roots in one cut). By AI agents, Wed Nov 11 2026. No macro, syntax, notation, axiom, sorry.
-/
import Derived.Test.YtkjgbldooflodaaChecked
import GoSem.Claim
import GoSem.ClaimJoined
import GoSem.ClaimMapViews
import Derived.JoinedTies
import Derived.KernelRfl
namespace Go.Proofs.Ytkjgbldooflodaa
/- THE CELL 'sum', in the pinned program and in every row, IS THE sha256 OF THE DUMP (.gsa) THAT YtkjgbldooflodaaProg.lean LOADS. Nothing in Lean hashes anything: it is a label: what it is worth is what the hold of that sum in a sandbox is worth. -/
noncomputable def Try.pinned : Pinned := { name := "ytkjgbldooflodaa", sum := "79f0393d8c7c6168156015eca2e4df8d9efd333f8fa7ffd8ac4547e57a3c5ad7", checked := Try.checked }
namespace Rows
def none {H : Type} : Left H := { results := [], args := [] }

/-- 'pleachlaw15.CommitWrites': WHATEVER THE INPUT: true; the input reads as it did. -/
def commitWritesSpec : ChangeSpec := { name := "commitWrites", fn := fun _ => fun
  | [d] => { results := [.lit (.bool true)], args := [d] }
  | _ => none }
def commitWritesRow : OpenClaim := { program := "ytkjgbldooflodaa", sum := "79f0393d8c7c6168156015eca2e4df8d9efd333f8fa7ffd8ac4547e57a3c5ad7", func := "pleach/pleachlaw15.CommitWrites", spec := "commitWrites", inPlace := ["internal/abi.NoEscape", "internal/bytealg.MakeNoZero"], unfollowed := true, recurses := true, apart := false }
def CommitWritesSaid : Prop := commitWritesRow.holds Try.pinned (OpenSpec.ofChange commitWritesSpec)

/-- ITS FALSE NEIGHBOUR: 'it returns false'. Refute it at one input. -/
def commitWritesWrong : ChangeSpec := { name := "commitWrites", fn := fun _ => fun
  | [d] => { results := [.lit (.bool false)], args := [d] }
  | _ => none }
def CommitWritesWrongFalsely : Prop := commitWritesRow.holds Try.pinned (OpenSpec.ofChange commitWritesWrong)

/-- 'pleachlaw15.CommitReads': WHATEVER THE INPUT: true; the input reads as it did. -/
def commitReadsSpec : ChangeSpec := { name := "commitReads", fn := fun _ => fun
  | [d] => { results := [.lit (.bool true)], args := [d] }
  | _ => none }
def commitReadsRow : OpenClaim := { program := "ytkjgbldooflodaa", sum := "79f0393d8c7c6168156015eca2e4df8d9efd333f8fa7ffd8ac4547e57a3c5ad7", func := "pleach/pleachlaw15.CommitReads", spec := "commitReads", inPlace := ["internal/abi.NoEscape", "internal/bytealg.MakeNoZero"], unfollowed := true, recurses := true, apart := false }
def CommitReadsSaid : Prop := commitReadsRow.holds Try.pinned (OpenSpec.ofChange commitReadsSpec)

/-- ITS FALSE NEIGHBOUR: 'it returns false'. Refute it at one input. -/
def commitReadsWrong : ChangeSpec := { name := "commitReads", fn := fun _ => fun
  | [d] => { results := [.lit (.bool false)], args := [d] }
  | _ => none }
def CommitReadsWrongFalsely : Prop := commitReadsRow.holds Try.pinned (OpenSpec.ofChange commitReadsWrong)

/-- 'pleachlaw15.CommitLost': WHATEVER THE INPUT: true; the input reads as it did. -/
def commitLostSpec : ChangeSpec := { name := "commitLost", fn := fun _ => fun
  | [d1, d2] => { results := [.lit (.bool true)], args := [d1, d2] }
  | _ => none }
def commitLostRow : OpenClaim := { program := "ytkjgbldooflodaa", sum := "79f0393d8c7c6168156015eca2e4df8d9efd333f8fa7ffd8ac4547e57a3c5ad7", func := "pleach/pleachlaw15.CommitLost", spec := "commitLost", inPlace := ["internal/abi.NoEscape", "internal/bytealg.MakeNoZero"], unfollowed := true, recurses := true, apart := false }
def CommitLostSaid : Prop := commitLostRow.holds Try.pinned (OpenSpec.ofChange commitLostSpec)

/-- ITS FALSE NEIGHBOUR: 'it returns false'. Refute it at one input. -/
def commitLostWrong : ChangeSpec := { name := "commitLost", fn := fun _ => fun
  | [d1, d2] => { results := [.lit (.bool false)], args := [d1, d2] }
  | _ => none }
def CommitLostWrongFalsely : Prop := commitLostRow.holds Try.pinned (OpenSpec.ofChange commitLostWrong)

/-- 'pleachlaw15.CommitOrder': WHATEVER THE INPUT: true; the input reads as it did. -/
def commitOrderSpec : ChangeSpec := { name := "commitOrder", fn := fun _ => fun
  | [d1, d2] => { results := [.lit (.bool true)], args := [d1, d2] }
  | _ => none }
def commitOrderRow : OpenClaim := { program := "ytkjgbldooflodaa", sum := "79f0393d8c7c6168156015eca2e4df8d9efd333f8fa7ffd8ac4547e57a3c5ad7", func := "pleach/pleachlaw15.CommitOrder", spec := "commitOrder", inPlace := ["internal/abi.NoEscape", "internal/bytealg.MakeNoZero"], unfollowed := true, recurses := true, apart := false }
def CommitOrderSaid : Prop := commitOrderRow.holds Try.pinned (OpenSpec.ofChange commitOrderSpec)

/-- ITS FALSE NEIGHBOUR: 'it returns false'. Refute it at one input. -/
def commitOrderWrong : ChangeSpec := { name := "commitOrder", fn := fun _ => fun
  | [d1, d2] => { results := [.lit (.bool false)], args := [d1, d2] }
  | _ => none }
def CommitOrderWrongFalsely : Prop := commitOrderRow.holds Try.pinned (OpenSpec.ofChange commitOrderWrong)

/-- 'pleachlaw15.CommitGraph': WHATEVER THE INPUT: true; the input reads as it did. -/
def commitGraphSpec : ChangeSpec := { name := "commitGraph", fn := fun _ => fun
  | [d1, d2] => { results := [.lit (.bool true)], args := [d1, d2] }
  | _ => none }
def commitGraphRow : OpenClaim := { program := "ytkjgbldooflodaa", sum := "79f0393d8c7c6168156015eca2e4df8d9efd333f8fa7ffd8ac4547e57a3c5ad7", func := "pleach/pleachlaw15.CommitGraph", spec := "commitGraph", inPlace := ["internal/abi.NoEscape", "internal/bytealg.MakeNoZero"], unfollowed := true, recurses := true, apart := false }
def CommitGraphSaid : Prop := commitGraphRow.holds Try.pinned (OpenSpec.ofChange commitGraphSpec)

/-- ITS FALSE NEIGHBOUR: 'it returns false'. Refute it at one input. -/
def commitGraphWrong : ChangeSpec := { name := "commitGraph", fn := fun _ => fun
  | [d1, d2] => { results := [.lit (.bool false)], args := [d1, d2] }
  | _ => none }
def CommitGraphWrongFalsely : Prop := commitGraphRow.holds Try.pinned (OpenSpec.ofChange commitGraphWrong)

/-- 'pleachlaw15.CommitBases': WHATEVER THE INPUT: true; the input reads as it did. -/
def commitBasesSpec : ChangeSpec := { name := "commitBases", fn := fun _ => fun
  | [d1, d2] => { results := [.lit (.bool true)], args := [d1, d2] }
  | _ => none }
def commitBasesRow : OpenClaim := { program := "ytkjgbldooflodaa", sum := "79f0393d8c7c6168156015eca2e4df8d9efd333f8fa7ffd8ac4547e57a3c5ad7", func := "pleach/pleachlaw15.CommitBases", spec := "commitBases", inPlace := ["internal/abi.NoEscape", "internal/bytealg.MakeNoZero"], unfollowed := true, recurses := true, apart := false }
def CommitBasesSaid : Prop := commitBasesRow.holds Try.pinned (OpenSpec.ofChange commitBasesSpec)

/-- ITS FALSE NEIGHBOUR: 'it returns false'. Refute it at one input. -/
def commitBasesWrong : ChangeSpec := { name := "commitBases", fn := fun _ => fun
  | [d1, d2] => { results := [.lit (.bool false)], args := [d1, d2] }
  | _ => none }
def CommitBasesWrongFalsely : Prop := commitBasesRow.holds Try.pinned (OpenSpec.ofChange commitBasesWrong)

/- THE SECOND FORM. 'bulk': how many values and letters a reading holds, each counted each time it is reached (what is shared counts as often as it is met; a slice's spare places count too). A statement '..UptoSaid' is the law's where the arguments, and the package variables that the reading takes, are together of bulk at most 1048576: NARROWER than '..Said'. Prove '..Said' where nothing that the law and all that it calls make is longer than what came in: it says more and counts as full. Else prove '..UptoSaid'. A law counts once. -/
mutual
def uptoBulk {H : Type} : DataW H → Nat
  | .lit (.string bytes) => bytes.length + 1
  | .lit _ => 1
  | .nil => 1
  | .ptr d => uptoBulk d + 1
  | .slice elems spare => uptoBulkAll elems + uptoBulkAll spare + 1
  | .agg parts => uptoBulkAll parts + 1
  | .iface _ d => uptoBulk d + 1
  | .map entries => uptoBulkEntries entries + 1
  | .held _ => 1
def uptoBulkAll {H : Type} : List (DataW H) → Nat
  | [] => 0
  | d :: r => uptoBulk d + uptoBulkAll r
def uptoBulkEntries {H : Type} : List (Lit × DataW H) → Nat
  | [] => 0
  | x :: r => uptoBulkEntry x + uptoBulkEntries r
def uptoBulkEntry {H : Type} : Lit × DataW H → Nat
  | (.string bytes, d) => bytes.length + uptoBulk d + 1
  | (_, d) => uptoBulk d + 1
 end
def uptoSmall : (H : Type) → List (DataW H) → Bool := fun _ ds => decide (uptoBulkAll ds ≤ 1048576)
def OpenSpec.upto (s : _root_.Go.ChangeSpec) : _root_.Go.OpenSpec := { _root_.Go.OpenSpec.ofChange s with cond := some uptoSmall }

/-- 'pleachlaw15.CommitWrites', WHERE WHAT IT READS IS OF BULK AT MOST 1048576: true; the input reads as it did. -/
def commitWritesUptoRow : OpenClaim := { program := "ytkjgbldooflodaa", sum := "79f0393d8c7c6168156015eca2e4df8d9efd333f8fa7ffd8ac4547e57a3c5ad7", func := "pleach/pleachlaw15.CommitWrites", spec := "commitWrites", inPlace := ["internal/abi.NoEscape", "internal/bytealg.MakeNoZero"], unfollowed := true, recurses := true, apart := false, narrowed := true }
def CommitWritesUptoSaid : Prop := commitWritesUptoRow.holds Try.pinned (OpenSpec.upto commitWritesSpec)

/-- 'pleachlaw15.CommitReads', WHERE WHAT IT READS IS OF BULK AT MOST 1048576: true; the input reads as it did. -/
def commitReadsUptoRow : OpenClaim := { program := "ytkjgbldooflodaa", sum := "79f0393d8c7c6168156015eca2e4df8d9efd333f8fa7ffd8ac4547e57a3c5ad7", func := "pleach/pleachlaw15.CommitReads", spec := "commitReads", inPlace := ["internal/abi.NoEscape", "internal/bytealg.MakeNoZero"], unfollowed := true, recurses := true, apart := false, narrowed := true }
def CommitReadsUptoSaid : Prop := commitReadsUptoRow.holds Try.pinned (OpenSpec.upto commitReadsSpec)

/-- 'pleachlaw15.CommitLost', WHERE WHAT IT READS IS OF BULK AT MOST 1048576: true; the input reads as it did. -/
def commitLostUptoRow : OpenClaim := { program := "ytkjgbldooflodaa", sum := "79f0393d8c7c6168156015eca2e4df8d9efd333f8fa7ffd8ac4547e57a3c5ad7", func := "pleach/pleachlaw15.CommitLost", spec := "commitLost", inPlace := ["internal/abi.NoEscape", "internal/bytealg.MakeNoZero"], unfollowed := true, recurses := true, apart := false, narrowed := true }
def CommitLostUptoSaid : Prop := commitLostUptoRow.holds Try.pinned (OpenSpec.upto commitLostSpec)

/-- 'pleachlaw15.CommitOrder', WHERE WHAT IT READS IS OF BULK AT MOST 1048576: true; the input reads as it did. -/
def commitOrderUptoRow : OpenClaim := { program := "ytkjgbldooflodaa", sum := "79f0393d8c7c6168156015eca2e4df8d9efd333f8fa7ffd8ac4547e57a3c5ad7", func := "pleach/pleachlaw15.CommitOrder", spec := "commitOrder", inPlace := ["internal/abi.NoEscape", "internal/bytealg.MakeNoZero"], unfollowed := true, recurses := true, apart := false, narrowed := true }
def CommitOrderUptoSaid : Prop := commitOrderUptoRow.holds Try.pinned (OpenSpec.upto commitOrderSpec)

/-- 'pleachlaw15.CommitGraph', WHERE WHAT IT READS IS OF BULK AT MOST 1048576: true; the input reads as it did. -/
def commitGraphUptoRow : OpenClaim := { program := "ytkjgbldooflodaa", sum := "79f0393d8c7c6168156015eca2e4df8d9efd333f8fa7ffd8ac4547e57a3c5ad7", func := "pleach/pleachlaw15.CommitGraph", spec := "commitGraph", inPlace := ["internal/abi.NoEscape", "internal/bytealg.MakeNoZero"], unfollowed := true, recurses := true, apart := false, narrowed := true }
def CommitGraphUptoSaid : Prop := commitGraphUptoRow.holds Try.pinned (OpenSpec.upto commitGraphSpec)

/-- 'pleachlaw15.CommitBases', WHERE WHAT IT READS IS OF BULK AT MOST 1048576: true; the input reads as it did. -/
def commitBasesUptoRow : OpenClaim := { program := "ytkjgbldooflodaa", sum := "79f0393d8c7c6168156015eca2e4df8d9efd333f8fa7ffd8ac4547e57a3c5ad7", func := "pleach/pleachlaw15.CommitBases", spec := "commitBases", inPlace := ["internal/abi.NoEscape", "internal/bytealg.MakeNoZero"], unfollowed := true, recurses := true, apart := false, narrowed := true }
def CommitBasesUptoSaid : Prop := commitBasesUptoRow.holds Try.pinned (OpenSpec.upto commitBasesSpec)

end Rows
end Go.Proofs.Ytkjgbldooflodaa
