/-
  Plain words of SHA-256: the reference's choice and majority are the program's. No program, no memory.
-/
import Derived.Test.YtkjgbldooflodaaSha3
namespace Go.Proofs.Ytkjgbldooflodaa.Sha
open Go
def bv (x : Int) : BitVec 32 := BitVec.ofInt 32 x
theorem wrap_toNat (b : BitVec 32) : IntKind.u32.wrap (b.toNat : Int) = (b.toNat : Int) := by
  rw [IntKind.wrap_u32']
  have := b.isLt
  omega
theorem bv_toNat (b : BitVec 32) : bv (b.toNat : Int) = b := by
  unfold bv
  rw [BitVec.ofInt_natCast, BitVec.ofNat_toNat, BitVec.setWidth_eq]
theorem bits_or (x y : Int) : Go.bits .or .u32 x y = ((bv x ||| bv y).toNat : Int) := wrap_toNat _
theorem bits_and (x y : Int) : Go.bits .and .u32 x y = ((bv x &&& bv y).toNat : Int) := wrap_toNat _
theorem bits_xor (x y : Int) : Go.bits .xor .u32 x y = ((bv x ^^^ bv y).toNat : Int) := wrap_toNat _
theorem bits_or_comm (x y : Int) : Go.bits .or .u32 x y = Go.bits .or .u32 y x := by rw [bits_or, bits_or, BitVec.or_comm]
theorem bv_max : bv IntKind.u32.max = BitVec.allOnes 32 := by decide
theorem ch_or (e f g : Int) : Go.bits .or .u32 (Go.bits .and .u32 e f) (Go.bits .and .u32 (Go.bits .xor .u32 IntKind.u32.max e) g) =
    Go.bits .xor .u32 (Go.bits .and .u32 e f) (Go.bits .and .u32 (Go.bits .xor .u32 IntKind.u32.max e) g) := by
  simp only [bits_or, bits_and, bits_xor, bv_toNat, bv_max]
  congr 2
  ext i hi
  simp only [BitVec.getElem_or, BitVec.getElem_and, BitVec.getElem_xor, BitVec.getElem_allOnes]
  cases (bv e)[i] <;> simp
theorem maj_or (a b c : Int) : Go.bits .or .u32 (Go.bits .or .u32 (Go.bits .and .u32 a b) (Go.bits .and .u32 a c)) (Go.bits .and .u32 b c) =
    Go.bits .xor .u32 (Go.bits .xor .u32 (Go.bits .and .u32 a b) (Go.bits .and .u32 a c)) (Go.bits .and .u32 b c) := by
  simp only [bits_or, bits_and, bits_xor, bv_toNat]
  congr 2
  ext i hi
  simp only [BitVec.getElem_or, BitVec.getElem_and, BitVec.getElem_xor]
  cases (bv a)[i] <;> cases (bv b)[i] <;> cases (bv c)[i] <;> rfl
end Go.Proofs.Ytkjgbldooflodaa.Sha
