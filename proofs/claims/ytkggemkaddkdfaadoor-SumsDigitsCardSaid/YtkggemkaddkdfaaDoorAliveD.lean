/-
  The walk of alive.
-/
import Derived.Test.YtkggemkaddkdfaaDoorHex
import Derived.Test.YtkggemkaddkdfaaDoorPrint
import Derived.Test.YtkggemkaddkdfaaDoorCheckD
import Derived.Test.YtkggemkaddkdfaaDoorAbcD
namespace Go.Proofs.YtkggemkaddkdfaaDoor
open Go.RowKit
set_option maxRecDepth 100000
set_option linter.unusedVariables false
set_option linter.unusedSimpArgs false
theorem alive_any (w : World) : Calls Tryd.prog 4 #[] w fun e w' => e = .returned (.bool true) ∧ Below w.heap.size w w' := by
  have hz : (⟨#[97, 98, 99]⟩ : ByteArray).size ≤ 140737488351232 := (by decide : (3 : Nat) ≤ 140737488351232)
  have hz9 : (⟨#[49, 50, 51, 52, 53, 54, 55, 56, 57]⟩ : ByteArray).size ≤ 140737488351232 := (by decide : (9 : Nat) ≤ 140737488351232)
  have hzs : (Sha.sha ⟨#[97, 98, 99]⟩).size ≤ 70368744177663 := by rw [sha_size1]; decide
  go_enter Tryd.func4, Tryd.ntmps4
  go_wp2_with (fail)
  go_at_call 9
  refine (print_any _ w hz).mono ?_
  rintro e w1 ⟨rfl, hb1⟩
  go_wp2_with (fail)
  go_at_call 5
  refine (hex_any _ w1 hzs).mono ?_
  rintro e w2 ⟨rfl, hb2⟩
  rw [abc_known]
  go_wp2_with (fail)
  go_at_call 10
  refine (check_any _ w2 hz9).mono ?_
  rintro e w3 ⟨rfl, hb3⟩
  rw [crc_known]
  go_wp2_with (fail)
  go_ret
  have b2 := hb1.trans (hb2.mono hb1.size)
  exact ⟨by simp, b2.trans (hb3.mono b2.size)⟩
end Go.Proofs.YtkggemkaddkdfaaDoor
