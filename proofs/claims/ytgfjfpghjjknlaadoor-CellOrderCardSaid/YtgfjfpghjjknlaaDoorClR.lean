/-
  The walk of the reference's Same at one list twice.
-/
import Derived.Test.YtgfjfpghjjknlaaDoorClC
import Derived.BigQuiet
namespace Go.Proofs.YtgfjfpghjjknlaaDoor
open Go.RowKit Cl
set_option maxRecDepth 100000
set_option linter.unusedVariables false
set_option linter.unusedSimpArgs false
theorem below_drewN {B : Nat} {w w' : World} (h : Below B w w') (n : Nat) : Below B w (w'.drewN n) := by
  induction n with
  | zero => exact h
  | succ n ih => exact ih.drew
set_option maxHeartbeats 4000000 in
theorem same_any (l : List V) (c1 c2 : Nat) (o1 o2 : Option Addr) (w : World) (h1 : Sl w o1 l) (h2 : Sl w o2 l) (hl : l.length ≤ 140737488351232) :
    Calls Tryd.prog 21 #[.slice o1 l.length c1, .slice o2 l.length c2] w fun e w' => e = .returned (.bool true) ∧ Below w.heap.size w w' := by
  go_enter Tryd.func21, Tryd.ntmps21
  go_wp2
  go_loopw [5] (fun v wr => ∃ i : Nat, i ≤ l.length ∧ v = .int .i64 i ∧ Below w.heap.size w wr)
    (fun v _ => l.length - (intOf v).toNat)
  case atStart => exact ⟨0, by omega, rfl, Below.refl _ _⟩
  case round =>
    obtain ⟨i, hi, rfl, hB⟩ := hrel
    by_cases hil : i < l.length
    · obtain ⟨a, rfl⟩ := h1.1 (by intro e; rw [e] at hil; exact absurd hil (by simp))
      obtain ⟨b, rfl⟩ := h2.1 (by intro e; rw [e] at hil; exact absurd hil (by simp))
      obtain ⟨x, hx⟩ : ∃ x, l[i]? = some x := ⟨l[i], List.getElem?_eq_getElem hil⟩
      obtain ⟨c0, c1, c2⟩ := ((h1.2 a rfl).below hB (h1.2 a rfl).1).2 i x hx
      obtain ⟨d0, d1, d2⟩ := ((h2.2 b rfl).below hB (h2.2 b rfl).1).2 i x hx
      have i16 : (i : Int) < l.length := by omega
      have i17 : IntKind.i64.wrap ((i : Int) + 1) = (i : Int) + 1 := i64_wrap_in _ (by omega) (by omega)
      clear hx
      go_wp2
      go_quiet (fail)
      all_goals (
        go_wp2
        go_roundw
        (case rel => exact ⟨i + 1, hil, by go_num, by first | exact hB.drew | exact below_drewN hB _⟩)
        (case measure => simp [intOf]; omega))
    · obtain rfl : i = l.length := by omega
      go_wp2
      go_ret
      exact ⟨rfl, hB⟩
end Go.Proofs.YtgfjfpghjjknlaaDoor
