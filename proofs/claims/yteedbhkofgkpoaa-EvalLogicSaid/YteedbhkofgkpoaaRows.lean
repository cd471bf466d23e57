/-
  No cell of these rows narrows 'for every input' (looked for: loops, veiled, ifaces, maps, wideKeys, modest, calm, conditions, laid).
  DERIVED. THE GIVEN ROWS OF THIS SEAT. 5 by the template 'for every input the law returns true; each argument reads behind the call as it read before'; 0 by the template 'total and deterministic' (their statements: YteedbhkofgkpoaaTotals.lean).
  GIVEN WITH THE SEED: the statements are not yours to turn. If you find one false, say at which input.
  Laid BY PROGRAM, IN A SANDBOX (cutbox-rows.mjs): the forced cells as the released guide's own fill.sh prints them over the translation 00e5f1a0f30b495e… (all of the seat's roots in one cut). By AI agents, Wed Nov 11 2026. No macro, syntax, notation, axiom, sorry.
-/
import Derived.Test.YteedbhkofgkpoaaChecked
import GoSem.Claim
import GoSem.ClaimJoined
import GoSem.ClaimMapViews
import Derived.JoinedTies
import Derived.KernelRfl
namespace Go.Proofs.Yteedbhkofgkpoaa
/- THE CELL 'sum', in the pinned program and in every row, IS THE sha256 OF THE DUMP (.gsa) THAT YteedbhkofgkpoaaProg.lean LOADS. Nothing in Lean hashes anything: it is a label: what it is worth is what the hold of that sum in a sandbox is worth. -/
noncomputable def Try.pinned : Pinned := { name := "yteedbhkofgkpoaa", sum := "00e5f1a0f30b495e7781b95da0646702f7ab066a65864badb81bfe92591ad319", checked := Try.checked }
namespace Rows
def none {H : Type} : Left H := { results := [], args := [] }

/-- 'pleachlaw20.EvalChecks': WHATEVER THE INPUT: true; the input reads as it did. -/
def evalChecksSpec : ChangeSpec := { name := "evalChecks", fn := fun _ => fun
  | [d1, d2] => { results := [.lit (.bool true)], args := [d1, d2] }
  | _ => none }
def evalChecksRow : OpenClaim := { program := "yteedbhkofgkpoaa", sum := "00e5f1a0f30b495e7781b95da0646702f7ab066a65864badb81bfe92591ad319", func := "pleach/pleachlaw20.EvalChecks", spec := "evalChecks", unfollowed := true, recurses := true, apart := false }
def EvalChecksSaid : Prop := evalChecksRow.holds Try.pinned (OpenSpec.ofChange evalChecksSpec)

/-- ITS FALSE NEIGHBOUR: 'it returns false'. Refute it at one input. -/
def evalChecksWrong : ChangeSpec := { name := "evalChecks", fn := fun _ => fun
  | [d1, d2] => { results := [.lit (.bool false)], args := [d1, d2] }
  | _ => none }
def EvalChecksWrongFalsely : Prop := evalChecksRow.holds Try.pinned (OpenSpec.ofChange evalChecksWrong)

/-- 'pleachlaw20.EvalWorks': WHATEVER THE INPUT: true; the input reads as it did. -/
def evalWorksSpec : ChangeSpec := { name := "evalWorks", fn := fun _ => fun
  | [d1, d2, d3] => { results := [.lit (.bool true)], args := [d1, d2, d3] }
  | _ => none }
def evalWorksRow : OpenClaim := { program := "yteedbhkofgkpoaa", sum := "00e5f1a0f30b495e7781b95da0646702f7ab066a65864badb81bfe92591ad319", func := "pleach/pleachlaw20.EvalWorks", spec := "evalWorks", unfollowed := true, recurses := true, apart := false }
def EvalWorksSaid : Prop := evalWorksRow.holds Try.pinned (OpenSpec.ofChange evalWorksSpec)

/-- ITS FALSE NEIGHBOUR: 'it returns false'. Refute it at one input. -/
def evalWorksWrong : ChangeSpec := { name := "evalWorks", fn := fun _ => fun
  | [d1, d2, d3] => { results := [.lit (.bool false)], args := [d1, d2, d3] }
  | _ => none }
def EvalWorksWrongFalsely : Prop := evalWorksRow.holds Try.pinned (OpenSpec.ofChange evalWorksWrong)

/-- 'pleachlaw20.EvalNumbers': WHATEVER THE INPUT: true; the input reads as it did. -/
def evalNumbersSpec : ChangeSpec := { name := "evalNumbers", fn := fun _ => fun
  | [d1, d2] => { results := [.lit (.bool true)], args := [d1, d2] }
  | _ => none }
def evalNumbersRow : OpenClaim := { program := "yteedbhkofgkpoaa", sum := "00e5f1a0f30b495e7781b95da0646702f7ab066a65864badb81bfe92591ad319", func := "pleach/pleachlaw20.EvalNumbers", spec := "evalNumbers", unfollowed := true, recurses := true, apart := false }
def EvalNumbersSaid : Prop := evalNumbersRow.holds Try.pinned (OpenSpec.ofChange evalNumbersSpec)

/-- ITS FALSE NEIGHBOUR: 'it returns false'. Refute it at one input. -/
def evalNumbersWrong : ChangeSpec := { name := "evalNumbers", fn := fun _ => fun
  | [d1, d2] => { results := [.lit (.bool false)], args := [d1, d2] }
  | _ => none }
def EvalNumbersWrongFalsely : Prop := evalNumbersRow.holds Try.pinned (OpenSpec.ofChange evalNumbersWrong)

/-- 'pleachlaw20.EvalLogic': WHATEVER THE INPUT: true; the input reads as it did. -/
def evalLogicSpec : ChangeSpec := { name := "evalLogic", fn := fun _ => fun
  | [d1, d2] => { results := [.lit (.bool true)], args := [d1, d2] }
  | _ => none }
def evalLogicRow : OpenClaim := { program := "yteedbhkofgkpoaa", sum := "00e5f1a0f30b495e7781b95da0646702f7ab066a65864badb81bfe92591ad319", func := "pleach/pleachlaw20.EvalLogic", spec := "evalLogic", unfollowed := true, recurses := true, apart := false }
def EvalLogicSaid : Prop := evalLogicRow.holds Try.pinned (OpenSpec.ofChange evalLogicSpec)

/-- ITS FALSE NEIGHBOUR: 'it returns false'. Refute it at one input. -/
def evalLogicWrong : ChangeSpec := { name := "evalLogic", fn := fun _ => fun
  | [d1, d2] => { results := [.lit (.bool false)], args := [d1, d2] }
  | _ => none }
def EvalLogicWrongFalsely : Prop := evalLogicRow.holds Try.pinned (OpenSpec.ofChange evalLogicWrong)

/-- 'pleachlaw20.EvalCompares': WHATEVER THE INPUT: true; the input reads as it did. -/
def evalComparesSpec : ChangeSpec := { name := "evalCompares", fn := fun _ => fun
  | [d1, d2] => { results := [.lit (.bool true)], args := [d1, d2] }
  | _ => none }
def evalComparesRow : OpenClaim := { program := "yteedbhkofgkpoaa", sum := "00e5f1a0f30b495e7781b95da0646702f7ab066a65864badb81bfe92591ad319", func := "pleach/pleachlaw20.EvalCompares", spec := "evalCompares", unfollowed := true, recurses := true, apart := false }
def EvalComparesSaid : Prop := evalComparesRow.holds Try.pinned (OpenSpec.ofChange evalComparesSpec)

/-- ITS FALSE NEIGHBOUR: 'it returns false'. Refute it at one input. -/
def evalComparesWrong : ChangeSpec := { name := "evalCompares", fn := fun _ => fun
  | [d1, d2] => { results := [.lit (.bool false)], args := [d1, d2] }
  | _ => none }
def EvalComparesWrongFalsely : Prop := evalComparesRow.holds Try.pinned (OpenSpec.ofChange evalComparesWrong)

/- THE SECOND FORM. 'bulk': how many values and letters a reading holds, each counted each time it is reached (what is shared counts as often as it is met; a slice's spare places count too). A statement '..UptoSaid' is the law's where the arguments, and the package variables that the reading takes, are together of bulk at most 1048576: NARROWER than '..Said'. Prove '..Said' where nothing that the law and all that it calls make is longer than what came in: it says more and counts as full. Else prove '..UptoSaid'. A law counts once. -/
mutual
def uptoBulk {H : Type} : DataW H → Nat
  | .lit (.string bytes) => bytes.length + 1
  | .lit _ => 1
  | .nil => 1
  | .ptr d => uptoBulk d + 1
  | .slice elems spare => uptoBulkAll elems + uptoBulkAll spare + 1
  | .agg parts => uptoBulkAll parts + 1
  | .iface _ d => uptoBulk d + 1
  | .map entries => uptoBulkEntries entries + 1
  | .held _ => 1
def uptoBulkAll {H : Type} : List (DataW H) → Nat
  | [] => 0
  | d :: r => uptoBulk d + uptoBulkAll r
def uptoBulkEntries {H : Type} : List (Lit × DataW H) → Nat
  | [] => 0
  | x :: r => uptoBulkEntry x + uptoBulkEntries r
def uptoBulkEntry {H : Type} : Lit × DataW H → Nat
  | (.string bytes, d) => bytes.length + uptoBulk d + 1
  | (_, d) => uptoBulk d + 1
 end
def uptoSmall : (H : Type) → List (DataW H) → Bool := fun _ ds => decide (uptoBulkAll ds ≤ 1048576)
def OpenSpec.upto (s : _root_.Go.ChangeSpec) : _root_.Go.OpenSpec := { _root_.Go.OpenSpec.ofChange s with cond := some uptoSmall }

/-- 'pleachlaw20.EvalChecks', WHERE WHAT IT READS IS OF BULK AT MOST 1048576: true; the input reads as it did. -/
def evalChecksUptoRow : OpenClaim := { program := "yteedbhkofgkpoaa", sum := "00e5f1a0f30b495e7781b95da0646702f7ab066a65864badb81bfe92591ad319", func := "pleach/pleachlaw20.EvalChecks", spec := "evalChecks", unfollowed := true, recurses := true, apart := false, narrowed := true }
def EvalChecksUptoSaid : Prop := evalChecksUptoRow.holds Try.pinned (OpenSpec.upto evalChecksSpec)

/-- 'pleachlaw20.EvalWorks', WHERE WHAT IT READS IS OF BULK AT MOST 1048576: true; the input reads as it did. -/
def evalWorksUptoRow : OpenClaim := { program := "yteedbhkofgkpoaa", sum := "00e5f1a0f30b495e7781b95da0646702f7ab066a65864badb81bfe92591ad319", func := "pleach/pleachlaw20.EvalWorks", spec := "evalWorks", unfollowed := true, recurses := true, apart := false, narrowed := true }
def EvalWorksUptoSaid : Prop := evalWorksUptoRow.holds Try.pinned (OpenSpec.upto evalWorksSpec)

/-- 'pleachlaw20.EvalNumbers', WHERE WHAT IT READS IS OF BULK AT MOST 1048576: true; the input reads as it did. -/
def evalNumbersUptoRow : OpenClaim := { program := "yteedbhkofgkpoaa", sum := "00e5f1a0f30b495e7781b95da0646702f7ab066a65864badb81bfe92591ad319", func := "pleach/pleachlaw20.EvalNumbers", spec := "evalNumbers", unfollowed := true, recurses := true, apart := false, narrowed := true }
def EvalNumbersUptoSaid : Prop := evalNumbersUptoRow.holds Try.pinned (OpenSpec.upto evalNumbersSpec)

/-- 'pleachlaw20.EvalLogic', WHERE WHAT IT READS IS OF BULK AT MOST 1048576: true; the input reads as it did. -/
def evalLogicUptoRow : OpenClaim := { program := "yteedbhkofgkpoaa", sum := "00e5f1a0f30b495e7781b95da0646702f7ab066a65864badb81bfe92591ad319", func := "pleach/pleachlaw20.EvalLogic", spec := "evalLogic", unfollowed := true, recurses := true, apart := false, narrowed := true }
def EvalLogicUptoSaid : Prop := evalLogicUptoRow.holds Try.pinned (OpenSpec.upto evalLogicSpec)

/-- 'pleachlaw20.EvalCompares', WHERE WHAT IT READS IS OF BULK AT MOST 1048576: true; the input reads as it did. -/
def evalComparesUptoRow : OpenClaim := { program := "yteedbhkofgkpoaa", sum := "00e5f1a0f30b495e7781b95da0646702f7ab066a65864badb81bfe92591ad319", func := "pleach/pleachlaw20.EvalCompares", spec := "evalCompares", unfollowed := true, recurses := true, apart := false, narrowed := true }
def EvalComparesUptoSaid : Prop := evalComparesUptoRow.holds Try.pinned (OpenSpec.upto evalComparesSpec)

end Rows
end Go.Proofs.Yteedbhkofgkpoaa
