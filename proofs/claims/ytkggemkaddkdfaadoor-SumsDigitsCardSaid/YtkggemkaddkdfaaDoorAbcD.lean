/-
  Two known answers: the fingerprint of abc in digits, and the check sum of 123456789. No program, no memory.
-/
import Derived.Test.YtkggemkaddkdfaaDoorCheckD
import Derived.Test.YtkggemkaddkdfaaDoorHex
namespace Go.Proofs.YtkggemkaddkdfaaDoor
open Go.RowKit
set_option linter.unusedVariables false
set_option linter.unusedSimpArgs false
theorem sha_size1 (s : ByteArray) : (Sha.sha s).size = 32 := by
  unfold Sha.sha
  rw [strOfNums_size]
  unfold Sha.digest
  rw [Sha.out4_length]
theorem crc_known : uv (Crc.crc (⟨#[49, 50, 51, 52, 53, 54, 55, 56, 57]⟩ : ByteArray).data.toList) = 3421780262 := by decide +kernel
theorem abc_known : Hx.str (Sha.sha ⟨#[97, 98, 99]⟩) = ⟨#[98, 97, 55, 56, 49, 54, 98, 102, 56, 102, 48, 49, 99, 102, 101, 97, 52, 49, 52, 49, 52, 48, 100, 101, 53, 100, 97, 101, 50, 50, 50, 51, 98, 48, 48, 51, 54, 49, 97, 51, 57, 54, 49, 55, 55, 97, 57, 99, 98, 52, 49, 48, 102, 102, 54, 49, 102, 50, 48, 48, 49, 53, 97, 100]⟩ := by decide +kernel
end Go.Proofs.YtkggemkaddkdfaaDoor
