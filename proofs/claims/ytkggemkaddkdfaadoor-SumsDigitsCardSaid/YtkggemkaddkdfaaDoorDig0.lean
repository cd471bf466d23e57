/-
  Digits of bytes and bytes of digits, in plain Lean. No program, no memory.
-/
import Derived.Test.YtkggemkaddkdfaaDoorHex
import Derived.Lib.SlTrimSet
import Derived.Lib.IndexBytes
namespace Go.Proofs.YtkggemkaddkdfaaDoor
open Go.RowKit
set_option linter.unusedVariables false
set_option linter.unusedSimpArgs false
namespace Dg
/-- A digit's value, or -1. -/
def dg (c : UInt8) : Int := if 48 ≤ c.toNat ∧ c.toNat ≤ 57 then (c.toNat : Int) - 48 else if 97 ≤ c.toNat ∧ c.toNat ≤ 102 then (c.toNat : Int) - 87 else -1
def isD (c : UInt8) : Bool := decide (0 ≤ dg c)
def unhex : List UInt8 → List UInt8
  | a :: b :: r => UInt8.ofNat (dg a * 16 + dg b).toNat :: unhex r
  | _ => []
def good (l : List UInt8) : Bool := l.length % 2 == 0 && l.all isD
def dl : List UInt8 := [48, 49, 50, 51, 52, 53, 54, 55, 56, 57, 97, 98, 99, 100, 101, 102]
theorem byte_all {p : UInt8 → Prop} (h : ∀ n : Fin 256, p (UInt8.ofNat n.1)) (c : UInt8) : p c := by
  have := h ⟨c.toNat, c.toNat_lt⟩
  simpa using this
theorem idx_dg (c : UInt8) : Lib.indexByte dl c = dg c := byte_all (p := fun c => Lib.indexByte dl c = dg c) (by decide +kernel) c
theorem has_dg (c : UInt8) : dl.contains c = isD c := byte_all (p := fun c => dl.contains c = isD c) (by decide +kernel) c
theorem dg_lt (c : UInt8) : -1 ≤ dg c ∧ dg c < 16 := by
  unfold dg
  split
  · omega
  · split <;> omega
theorem dg_ge {c : UInt8} (h : isD c = true) : 0 ≤ dg c ∧ dg c < 16 := ⟨of_decide_eq_true h, (dg_lt c).2⟩
theorem mem_drop {p : UInt8 → Bool} {x : UInt8} : ∀ {l : List UInt8}, x ∈ l → p x = false → x ∈ l.dropWhile p := by
  intro l
  induction l with
  | nil => intro h; cases h
  | cons a l ih =>
    intro h hp
    rw [List.dropWhile_cons]
    split
    · rename_i ha
      rcases List.mem_cons.1 h with rfl | h
      · rw [hp] at ha; cases ha
      · exact ih h hp
    · exact h
theorem drop_nil {p : UInt8 → Bool} : ∀ {l : List UInt8}, (∀ x ∈ l, p x = true) → l.dropWhile p = [] := by
  intro l
  induction l with
  | nil => intro _; rfl
  | cons a l ih =>
    intro h
    rw [List.dropWhile_cons, if_pos (h a (List.mem_cons_self ..))]
    exact ih fun x hx => h x (List.mem_cons_of_mem _ hx)
/-- What Trim leaves is empty just if all are digits. -/
theorem trim_nil (l : List UInt8) : Lib.trimS l dl = [] ↔ l.all isD = true := by
  constructor
  · intro h
    rw [List.all_eq_true]
    intro x hx
    by_cases hd : isD x = true
    · exact hd
    · exfalso
      have hc : dl.contains x = false := by rw [has_dg]; simpa using hd
      have h1 : x ∈ Lib.trimRightS l dl := by
        unfold Lib.trimRightS
        rw [List.mem_reverse]
        exact mem_drop (List.mem_reverse.2 hx) hc
      have h2 : x ∈ Lib.trimS l dl := mem_drop h1 hc
      rw [h] at h2
      cases h2
  · intro h
    rw [List.all_eq_true] at h
    unfold Lib.trimS Lib.trimLeftS
    refine drop_nil fun x hx => ?_
    have : x ∈ l := by
      unfold Lib.trimRightS at hx
      have := (List.dropWhile_sublist _).subset (List.mem_reverse.1 hx)
      exact List.mem_reverse.1 this
    rw [has_dg]
    exact h x this
theorem unhex_snoc : ∀ (n : Nat) (l : List UInt8), l.length = 2 * n → ∀ a b, unhex (l ++ [a, b]) = unhex l ++ [UInt8.ofNat (dg a * 16 + dg b).toNat] := by
  intro n
  induction n with
  | zero => intro l hl a b; rw [List.eq_nil_of_length_eq_zero hl]; rfl
  | succ n ih =>
    intro l hl a b
    match l, hl with
    | x :: y :: r, hl =>
      simp only [List.length_cons] at hl
      have := ih r (by omega) a b
      simp only [List.cons_append, unhex]
      rw [this]
theorem d_dg (n : Nat) (h : n < 16) : dg (Hx.d n) = n := by
  have : ∀ n : Fin 16, dg (Hx.d n.1) = (n.1 : Int) := by decide
  exact this ⟨n, h⟩
theorem hex_good (l : List UInt8) : good (Hx.hex l) = true := by
  unfold good
  rw [Hx.hex_length]
  simp only [Nat.mul_mod_right, BEq.rfl, Bool.true_and]
  rw [List.all_eq_true]
  intro x hx
  simp only [Hx.hex, List.mem_flatMap, List.mem_cons, List.mem_nil_iff, or_false] at hx
  obtain ⟨b, _, rfl | rfl⟩ := hx
  · unfold isD; rw [d_dg _ (by have := b.toNat_lt; omega)]; exact decide_eq_true (by omega)
  · unfold isD; rw [d_dg _ (by omega)]; exact decide_eq_true (by omega)
theorem unhex_hex (l : List UInt8) : unhex (Hx.hex l) = l := by
  induction l with
  | nil => rfl
  | cons b l ih =>
    have h1 : unhex (Hx.hex (b :: l)) = UInt8.ofNat (dg (Hx.d (b.toNat / 16)) * 16 + dg (Hx.d (b.toNat % 16))).toNat :: unhex (Hx.hex l) := rfl
    rw [h1, ih, d_dg _ (by have := b.toNat_lt; omega), d_dg _ (by omega)]
    congr 1
    have h2 : ((b.toNat / 16 : Nat) : Int) * 16 + ((b.toNat % 16 : Nat) : Int) = (b.toNat : Int) := by omega
    rw [h2]
    simp
theorem unhex_length (l : List UInt8) : (unhex l).length ≤ l.length := by
  have : ∀ (n : Nat) (l : List UInt8), l.length ≤ n → (unhex l).length ≤ l.length := by
    intro n
    induction n with
    | zero => intro l h; have e : l = [] := List.eq_nil_of_length_eq_zero (by omega); rw [e]; exact Nat.le_refl _
    | succ n ih =>
      intro l h
      match l, h with
      | [], _ => exact Nat.le_refl _
      | [_], _ => exact Nat.zero_le _
      | a :: b :: r, h =>
        simp only [List.length_cons] at h
        have := ih r (by omega)
        simp only [unhex, List.length_cons]
        omega
  exact this _ l (Nat.le_refl _)
theorem take2 (l : List UInt8) (k : Nat) (h : 2 * k + 1 < l.length) : l.take (2 * (k + 1)) = l.take (2 * k) ++ [l[2 * k], l[2 * k + 1]] := by
  rw [show 2 * (k + 1) = 2 * k + 1 + 1 by omega, List.take_succ_eq_append_getElem h, List.take_succ_eq_append_getElem (by omega), List.append_assoc]
  rfl
end Dg
end Go.Proofs.YtkggemkaddkdfaaDoor
