/-
  The plain law of EvalLogic.
-/
import Derived.Test.YteedbhkofgkpoaaEv5
namespace Go.Proofs.Yteedbhkofgkpoaa
open Go.RowKit Ev
set_option linter.unusedVariables false
set_option linter.unusedSimpArgs false
def lnum' (i : Nat) : Int := if i = 1 then 1 else 0
def lX' (i : Nat) : X := if i = 2 then .null else .bool (lnum' i)
theorem logic_plain (i j : Nat) (hi : i < 3) (hj : j < 3) : (workX (.bin 5 (lX' i) (lX' j))).1 = (workX (.bin 5 (lX' j) (lX' i))).1 ∧ (workX (.bin 6 (lX' i) (lX' j))).1 = (workX (.bin 6 (lX' j) (lX' i))).1 ∧ (workX (.not (.bin 5 (.not (lX' i)) (.not (lX' j))))).1 = (workX (.bin 6 (lX' i) (lX' j))).1 := by
  have he : emp.toList = [] := by simp
  have h1 : i = 0 ∨ i = 1 ∨ i = 2 := by omega
  have h2 : j = 0 ∨ j = 1 ∨ j = 2 := by omega
  rcases h1 with rfl | rfl | rfl <;> rcases h2 with rfl | rfl | rfl <;> simp [lX', lnum', workX, two, nul, tr, he]
end Go.Proofs.Yteedbhkofgkpoaa
