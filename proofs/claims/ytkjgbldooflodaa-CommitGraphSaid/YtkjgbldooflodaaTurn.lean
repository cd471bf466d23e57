/-
  The walk of the reference's turn: a number turned right; only orders are drawn.
-/
import Derived.Test.YtkjgbldooflodaaProg
import Derived.Test.YtkjgbldooflodaaSha4
import Derived.WalkSpells
import Derived.BigQuiet
namespace Go.Proofs.Ytkjgbldooflodaa
open Go.RowKit
set_option maxRecDepth 100000
set_option maxHeartbeats 400000 in
theorem turn_any (x n : Int) (h1 : 1 ≤ n) (h2 : n ≤ 31) (w : World) :
    Calls Try.prog 51 #[.int .u32 x, .int .i64 n] w fun e w' => e = .returned (.int .u32 (Sha.rotr x n.toNat)) ∧ ∃ m, w' = w.drewN m := by
  obtain ⟨m, rfl⟩ := Int.eq_ofNat_of_zero_le (show 0 ≤ n by omega)
  have hc : Go.bits .or .u32 (x / 2 ^ m) (x * 2 ^ (32 - m) % 4294967296) = Sha.rotr x m := Sha.bits_or_comm _ _
  have i1 : IntKind.i64.wrap (32 - (m : Int)) = ((32 - m : Nat) : Int) := by rw [IntKind.wrap_i64]; omega
  have i2 : ¬ ((m : Int) < 0) := by omega
  have i3 : ¬ (((32 - m : Nat) : Int) < 0) := by omega
  go_enter Try.func51, Try.ntmps51
  go_wp2
  go_quiet (fail)
  trace_state
  go_wp2
  go_ret
  exact ⟨rfl, _, rfl⟩
end Go.Proofs.Ytkjgbldooflodaa
