/-
  Small walks for awake: of at AND, the closure, IndexFunc and DeleteFunc at two numbers.
-/
import Derived.Test.YteedbhkofgkpoaaEv6
import Derived.Lib.SliceRun
import Derived.BigQuiet
namespace Go.Proofs.Yteedbhkofgkpoaa
open Go.RowKit Ev
set_option maxRecDepth 100000
set_option linter.unusedVariables false
set_option linter.unusedSimpArgs false
theorem of_and (n : Int) (o : Option Addr) (c : Nat) (w : World) : Calls Try.prog 24 #[nd ⟨#[98, 105, 110]⟩ ⟨#[65, 78, 68]⟩ n (.slice o 2 c)] w fun e w' => e = .returned (.tuple #[.int .i64 2, .int .i64 2, .bool true]) ∧ Below w.heap.size w w' := by
  unfold nd
  go_enter Try.func24, Try.ntmps24
  go_wp2
  go_quiet (fail)
  go_wp2
  exact bodyPost_ret (v := .tuple #[.int .i64 2, .int .i64 2, .bool true]) (by simp [results, Try.results24, go_sem]) rfl ⟨rfl, ((Below.refl _ _).alloc (Nat.le_refl _) _).trans ⟨rfl, rfl, rfl, Nat.le_refl _, fun _ _ => rfl⟩⟩
theorem isnil_any (n : Int) (w : World) : Calls Try.prog 26 #[.int .i64 n] w fun e w' => e = .returned (.bool (n == 0)) ∧ w' = w := by
  go_enter Try.func26, Try.ntmps26
  go_wp2
  go_ret
  exact ⟨rfl, rfl⟩
theorem index2 (g c : Nat) (w : World) (h0 : w.cell? ⟨g, 0, none⟩ = some (.int .i64 0)) : Calls Try.prog 44 #[.slice (some ⟨g, 0, none⟩) 2 c, .func (.func 26) #[] #[]] w fun e w' => e = .returned (.int .i64 0) ∧ w' = w := by
  go_enter Try.func44, Try.ntmps44
  go_wp2
  go_loop [8] (fun i => i = .int .i64 0) (fun _ => 0)
  case atStart => exact rfl
  case round =>
    subst hrel
    go_wp2_with (fail)
    refine (isnil_any 0 _).mono ?_
    rintro e w1 ⟨rfl, rfl⟩
    go_wp2
    go_ret
    exact ⟨rfl, rfl⟩
theorem delete2 (g c : Nat) (w : World) (hc : 2 ≤ c) (h0 : w.cell? ⟨g, 0, none⟩ = some (.int .i64 0)) (h1 : w.cell? ⟨g, 1, none⟩ = some (.int .i64 2)) (f0 : w.frozen? ⟨g, 0, none⟩ = false) (f1 : w.frozen? ⟨g, 1, none⟩ = false) :
    Calls Try.prog 25 #[.slice (some ⟨g, 0, none⟩) 2 c, .func (.func 26) #[] #[]] w fun e w' => e = .returned (.slice (some ⟨g, 0, none⟩) 1 c) ∧ w' = (w.setCell ⟨g, 0, none⟩ (.int .i64 2)).setCells g 1 [.int .i64 0] := by
  have hz : ∀ w, (zeroValue 3).run Try.prog w = .ok (.int .i64 0) w := fun w => rfl
  have d1 : (w.setCell ⟨g, 0, none⟩ (.int .i64 2)).cell? ⟨g, 1, none⟩ = some (.int .i64 2) := (World.cell?_setCell_other _ _ _ _ (by intro h; injection h with _ h _; omega)).trans h1
  have d2 : (w.setCell ⟨g, 0, none⟩ (.int .i64 2)).frozen? ⟨g, 1, none⟩ = false := by rw [← f1]; simp
  have e1 : ∀ j, j < 1 → ((w.setCell ⟨g, 0, none⟩ (.int .i64 2)).cell? ⟨g, 1 + j, none⟩).isSome = true := fun j hj => by
    obtain rfl : j = 0 := by omega
    rw [d1]
    rfl
  have e2 : ∀ j, j < 1 → (w.setCell ⟨g, 0, none⟩ (.int .i64 2)).frozen? ⟨g, 1 + j, none⟩ = false := fun j hj => by
    obtain rfl : j = 0 := by omega
    exact d2
  have hcl : ∀ ty, (Builtin.clear_ #[56] ty #[.slice (some ⟨g, 1, none⟩) 1 (c - 1)]).run Try.prog (w.setCell ⟨g, 0, none⟩ (.int .i64 2)) = .ok (.tuple #[]) ((w.setCell ⟨g, 0, none⟩ (.int .i64 2)).setCells g 1 [.int .i64 0]) :=
    fun ty => Lib.run_clear_slice _ _ 3 ty (.int .i64 0) (by kernel_rfl) hz rfl rfl g 1 1 (c - 1) (by omega) e1 e2
  go_enter Try.func25, Try.ntmps25
  go_wp2_with (fail)
  go_at_call 44
  refine (index2 g c w h0).mono ?_
  rintro e w1 ⟨rfl, rfl⟩
  go_wp2
  go_loopw [5, 6] (fun i j wr => (i = .int .i64 0 ∧ j = .int .i64 1 ∧ wr = w1) ∨ (i = .int .i64 1 ∧ j = .int .i64 2 ∧ wr = w1.setCell ⟨g, 0, none⟩ (.int .i64 2))) (fun _ j _ => 2 - (intOf j).toNat)
  case atStart => exact .inl ⟨rfl, rfl, rfl⟩
  case round =>
    rcases hrel with ⟨rfl, rfl, rfl⟩ | ⟨rfl, rfl, rfl⟩
    · go_wp2_with (fail)
      refine (isnil_any 2 _).mono ?_
      rintro e w1 ⟨rfl, rfl⟩
      go_wp2
      go_roundw
      case rel => exact .inr ⟨rfl, rfl, trivial⟩
      case measure => simp [intOf]
    · go_wp2
      go_ret
      exact ⟨rfl, rfl⟩
end Go.Proofs.Yteedbhkofgkpoaa
