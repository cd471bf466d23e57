/-
  A tuple's bytes in either form, in plain Lean.
-/
import Derived.Test.YtgfjfpghjjknlaaDoorCl4
import Derived.Test.YtgfjfpghjjknlaaDoorCl5
namespace Go.Proofs.YtgfjfpghjjknlaaDoor
open Go.RowKit Cl
set_option maxRecDepth 100000
set_option linter.unusedVariables false
set_option linter.unusedSimpArgs false
/-- A number of 64 bits, and turned. -/
def u64 (n : Int) : Nat := (n % 18446744073709551616).toNat
def turned (turn x : Nat) : Nat := (x + turn) % 18446744073709551616
def bytes8 (x : Nat) : List UInt8 := (List.range 8).map fun j => UInt8.ofNat (b8 x j)
theorem strOf_eight (x : Nat) : strOfNums (eight x) = ⟨(bytes8 x).toArray⟩ := by
  unfold strOfNums eight bytes8
  rw [List.map_map]
  rfl
/-- A value's bytes. -/
def valW (fk : Int) (turn : Nat) (W : List UInt8 → List UInt8) (v : V) : List UInt8 :=
  UInt8.ofNat (v.k + fk).toNat :: (if v.k = 1 then bytes8 (turned turn (u64 v.n)) else if v.k = 2 then [UInt8.ofNat v.n.toNat] else if v.k = 3 ∨ v.k = 4 then W v.s.data.toList else [])
def tupW (fk : Int) (turn : Nat) (W : List UInt8 → List UInt8) (l : List V) : List UInt8 := l.flatMap (valW fk turn W)
def W0 (l : List UInt8) : List UInt8 := UInt8.ofNat (l.length / 256) :: UInt8.ofNat (l.length % 256) :: l
def W1 (l : List UInt8) : List UInt8 := Esc.esc l ++ [0, 0]
theorem xor63 (l : Nat) (h : l < 9223372036854775808) : l ^^^ 9223372036854775808 = l + 9223372036854775808 := by
  have e : (9223372036854775808 : Nat) = 2 ^ 63 := by decide
  rw [e] at h ⊢
  refine Nat.eq_of_testBit_eq fun j => ?_
  rw [Nat.testBit_xor, Nat.testBit_two_pow, Nat.add_comm]
  rcases Nat.lt_trichotomy j 63 with hj | rfl | hj
  · rw [Nat.testBit_two_pow_add_gt hj]
    have : decide (63 = j) = false := decide_eq_false (by omega)
    rw [this]; simp
  · rw [Nat.testBit_two_pow_add_eq]; simp
  · have h1 : l.testBit j = false := Nat.testBit_lt_two_pow (Nat.lt_of_lt_of_le h (Nat.pow_le_pow_right (by decide) (by omega)))
    have h3 : (2 : Nat) ^ 64 = 2 ^ 63 + 2 ^ 63 := by decide
    have h4 : 2 ^ 63 + l < 2 ^ 64 := by omega
    have h2 : (2 ^ 63 + l).testBit j = false := Nat.testBit_lt_two_pow (Nat.lt_of_lt_of_le h4 (Nat.pow_le_pow_right (by decide) (by omega)))
    have : decide (63 = j) = false := decide_eq_false (by omega)
    rw [h1, h2, this]; rfl
theorem xor_turn (x turn : Nat) (hx : x < 18446744073709551616) (ht : turn = 0 ∨ turn = 9223372036854775808) : x ^^^ turn = turned turn x := by
  unfold turned
  rcases ht with rfl | rfl
  · rw [Nat.xor_zero]; omega
  · by_cases h : x < 9223372036854775808
    · rw [xor63 x h]; omega
    · obtain ⟨l, rfl⟩ : ∃ l, x = l + 9223372036854775808 := ⟨x - 9223372036854775808, by omega⟩
      have hl : l < 9223372036854775808 := by omega
      rw [← xor63 l hl, Nat.xor_assoc, Nat.xor_self, Nat.xor_zero, xor63 l hl]
      omega
theorem bits_turn (n : Int) (turn : Nat) (ht : turn = 0 ∨ turn = 9223372036854775808) : Go.bits .xor .u64 (IntKind.u64.wrap n) (turn : Int) = ((turned turn (u64 n) : Nat) : Int) := by
  have h1 : Go.bits .xor .u64 (IntKind.u64.wrap n) (turn : Int) = ((BitVec.ofInt 64 (IntKind.u64.wrap n) ^^^ BitVec.ofInt 64 (turn : Int)).toNat : Int) := wrap_u64 _
  have h2 : IntKind.u64.wrap n = ((u64 n : Nat) : Int) := by
    rw [IntKind.wrap_u64]; unfold u64; omega
  have hu : u64 n < 18446744073709551616 := by unfold u64; omega
  rw [h1, h2, BitVec.ofInt_natCast, BitVec.ofInt_natCast, BitVec.toNat_xor, BitVec.toNat_ofNat, BitVec.toNat_ofNat, Nat.mod_eq_of_lt (by omega), Nat.mod_eq_of_lt (by omega), xor_turn _ _ hu ht]
theorem esc_W1 (l : List UInt8) : (W1 l).length ≤ 2 * l.length + 2 := by unfold W1; rw [List.length_append]; have := Esc.esc_length l; simp; omega
theorem W0_length (l : List UInt8) : (W0 l).length = l.length + 2 := rfl
theorem bytes8_length (x : Nat) : (bytes8 x).length = 8 := by simp [bytes8]
theorem bld_below {T e : TypeId} {B b : Nat} {bs : List Value} {w w' : World} (h : Lib.IsBuilder T e B b bs w) (hb : Below w.heap.size w w') : Lib.IsBuilder T e B b bs w' := by
  have far : ∀ p, Lib.BuilderAt T e B b p bs w → Lib.BuilderAt T e B b p bs w' := by
    intro p hp
    obtain ⟨hB, u, hbk, hown, hne⟩ := hp
    exact ⟨hB, u, (hb.block b (Array.getElem?_eq_some_iff.1 hbk).1).trans hbk, hown.kept (row := none) (grow_below hb _) (by
      cases h : u.ownBlock with
      | none => exact .inl rfl
      | some k => exact .inr (by simp)), hne⟩
  exact h.imp (far _) (far _)
/-- What the writing of a text in a form is asked. -/
def IsW (wf : Nat) (W : List UInt8 → List UInt8) : Prop := ∀ (s : ByteArray) (w : World), Env w → s.size ≤ 1000 → Calls Tryd.prog wf #[.string s] w fun e w' => e = .returned (.string ⟨(W s.data.toList).toArray⟩) ∧ Below w.heap.size w w'
theorem isW1 : IsW 56 W1 := fun s w he hs => risingW_any s w he hs
theorem isW0 : IsW 61 W0 := fun s w he hs => by
  have h := plainW_any s w hs
  have e : strOfNums [(s.size : Int) / 256, (s.size : Int) % 256] ++ s = ⟨(W0 s.data.toList).toArray⟩ := by
    have hl : s.data.toList.length = s.size := rfl
    refine ByteArray.ext (Array.ext' ?_)
    unfold W0
    rw [hl]
    have e1 : ((s.size : Int) / 256).toNat = s.size / 256 := by omega
    have e2 : ((s.size : Int) % 256).toNat = s.size % 256 := by omega
    simp [strOfNums, e1, e2]
  rw [e] at h
  exact h
end Go.Proofs.YtgfjfpghjjknlaaDoor
