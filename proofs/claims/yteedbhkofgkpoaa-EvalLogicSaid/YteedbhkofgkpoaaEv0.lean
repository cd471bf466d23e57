/-
  Plain words of expressions' values: values, numbers worked within 64 bits, comparisons. No program, no memory.
-/
import Derived.WalkKit
namespace Go.Proofs.Yteedbhkofgkpoaa.Ev
open Go Go.RowKit
set_option linter.unusedVariables false
set_option linter.unusedSimpArgs false
/-- A value: its kind, its number, its text. -/
structure Vl where
  k : Int
  n : Int
  s : ByteArray
/-- As the model holds it. -/
def vv (v : Vl) : Value := .agg #[.int .i64 v.k, .int .i64 v.n, .string v.s]
abbrev emp : ByteArray := ⟨#[]⟩
def tr (b : Bool) : Vl := ⟨2, bif b then 1 else 0, emp⟩
def nul : Vl := ⟨0, 0, emp⟩
def num (n : Int) : Vl := ⟨1, n, emp⟩
def In64 (r : Int) : Prop := -9223372036854775808 ≤ r ∧ r ≤ 9223372036854775807
instance (r : Int) : Decidable (In64 r) := by unfold In64; infer_instance
/-- A number, if it has 64 bits. -/
def chk (r : Int) : Int × Int := if In64 r then (r, 0) else (0, 22)
/-- Two numbers, worked: 0 plus, 1 minus, 2 times, 3 quotient, 4 rest. -/
def work (o : Nat) (a b : Int) : Int × Int :=
  match o with
  | 0 => chk (a + b)
  | 1 => chk (a - b)
  | 2 => chk (a * b)
  | 3 => if b = 0 then (0, 23) else chk (a.tdiv b)
  | _ => if b = 0 then (0, 23) else (a.tmod b, 0)
def opS (o : Nat) : ByteArray :=
  match o with
  | 0 => ⟨#[43]⟩
  | 1 => ⟨#[45]⟩
  | 2 => ⟨#[42]⟩
  | 3 => ⟨#[47]⟩
  | _ => ⟨#[37]⟩
/-- Two whole numbers, two texts, compared. -/
def cmpI (a b : Int) : Int := if a < b then -1 else if b < a then 1 else 0
def cmpS (a b : ByteArray) : Int := bif Op.bytesLess a.toList b.toList then -1 else bif a.toList == b.toList then 0 else 1
def first3 (a b c : Int) : Int := if a ≠ 0 then a else if b ≠ 0 then b else c
/-- Two values, compared. -/
def one (v w : Vl) : Int := first3 (cmpI v.k w.k) (cmpI v.n w.n) (cmpS v.s w.s)
theorem wrap64_in' {a : Int} (h : In64 a) : wrap64 a = a := by unfold In64 at h; unfold wrap64; omega
theorem plus_ok {a b : Int} (ha : In64 a) (hb : In64 b) : (decide (a < wrap64 (a + b)) == decide (0 < b)) = decide (In64 (a + b)) := by
  unfold In64 at ha hb
  rw [Bool.eq_iff_iff]
  rw [beq_iff_eq, decide_eq_decide, decide_eq_true_eq]
  unfold In64
  have hw : wrap64 (a + b) = a + b ∨ (wrap64 (a + b) = a + b - 18446744073709551616 ∧ 9223372036854775807 < a + b) ∨ (wrap64 (a + b) = a + b + 18446744073709551616 ∧ a + b < -9223372036854775808) := by
    unfold wrap64; omega
  have hr : -9223372036854775808 ≤ wrap64 (a + b) ∧ wrap64 (a + b) ≤ 9223372036854775807 := by unfold wrap64; omega
  generalize wrap64 (a + b) = r at hw hr ⊢
  constructor
  · intro h
    omega
  · intro h
    omega
theorem minus_ok {a b : Int} (ha : In64 a) (hb : In64 b) : (decide (wrap64 (a - b) < a) == decide (0 < b)) = decide (In64 (a - b)) := by
  unfold In64 at ha hb
  rw [Bool.eq_iff_iff]
  rw [beq_iff_eq, decide_eq_decide, decide_eq_true_eq]
  unfold In64
  have hw : wrap64 (a - b) = a - b ∨ (wrap64 (a - b) = a - b - 18446744073709551616 ∧ 9223372036854775807 < a - b) ∨ (wrap64 (a - b) = a - b + 18446744073709551616 ∧ a - b < -9223372036854775808) := by
    unfold wrap64; omega
  have hr : -9223372036854775808 ≤ wrap64 (a - b) ∧ wrap64 (a - b) ≤ 9223372036854775807 := by unfold wrap64; omega
  generalize wrap64 (a - b) = r at hw hr ⊢
  constructor
  · intro h
    omega
  · intro h
    omega
end Go.Proofs.Yteedbhkofgkpoaa.Ev
