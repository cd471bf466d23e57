/-
  Check at leaves, Place without fields.
-/
import Derived.Test.YteedbhkofgkpoaaEv6
namespace Go.Proofs.Yteedbhkofgkpoaa
open Go.RowKit Ev
set_option maxRecDepth 100000
set_option linter.unusedVariables false
set_option linter.unusedSimpArgs false
theorem check_null (text : ByteArray) (n : Int) (k fs : Value) (w : World) : Calls Try.prog 11 #[nd ⟨#[110, 117, 108, 108]⟩ text n k, fs] w fun e w' => e = .returned (.tuple #[.int .i64 0, .int .i64 0]) ∧ Below w.heap.size w w' := by
  unfold nd
  go_enter Try.func11, Try.ntmps11
  go_wp2
  exact bodyPost_ret (v := .tuple #[.int .i64 0, .int .i64 0]) (by simp [results, Try.results11, go_sem]) rfl ⟨rfl, (Below.refl _ _).alloc (Nat.le_refl _) _⟩
theorem check_bool (text : ByteArray) (n : Int) (k fs : Value) (w : World) : Calls Try.prog 11 #[nd ⟨#[98, 111, 111, 108]⟩ text n k, fs] w fun e w' => e = .returned (.tuple #[.int .i64 2, .int .i64 0]) ∧ Below w.heap.size w w' := by
  unfold nd
  go_enter Try.func11, Try.ntmps11
  go_wp2
  exact bodyPost_ret (v := .tuple #[.int .i64 2, .int .i64 0]) (by simp [results, Try.results11, go_sem]) rfl ⟨rfl, (Below.refl _ _).alloc (Nat.le_refl _) _⟩
theorem indexF_none (fn : Value) (w : World) : Calls Try.prog 38 #[.slice none 0 0, fn] w fun e w' => e = .returned (.int .i64 (-1)) ∧ w' = w := by
  go_enter Try.func38, Try.ntmps38
  go_wp2
  go_loop [8] (fun i => i = .int .i64 0) (fun _ => 0)
  case atStart => exact rfl
  case round =>
    subst hrel
    go_wp2
    go_ret
    exact ⟨rfl, rfl⟩
theorem place_none (op text : ByteArray) (n : Int) (k : Value) (w : World) : Calls Try.prog 21 #[nd op text n k, .slice none 0 0] w fun e w' => e = .returned (.tuple #[.int .i64 (-1), .int .i64 21]) ∧ Below w.heap.size w w' := by
  have hmf : ∀ (fn : Fn) (first cap : Array Value) (w : World), (Instr.makeFunc fn first cap).run Try.prog w = .ok (.func fn first cap) w := fun _ _ _ _ => rfl
  unfold nd
  go_enter Try.func21, Try.ntmps21
  go_wp2_with (fail)
  go_at_call 38
  refine (indexF_none _ _).mono ?_
  rintro e w1 ⟨rfl, rfl⟩
  go_wp2
  exact bodyPost_ret (v := .tuple #[.int .i64 (-1), .int .i64 21]) (by simp [results, Try.results21, go_sem]) rfl ⟨rfl, (Below.refl _ _).alloc (Nat.le_refl _) _⟩
end Go.Proofs.Yteedbhkofgkpoaa
