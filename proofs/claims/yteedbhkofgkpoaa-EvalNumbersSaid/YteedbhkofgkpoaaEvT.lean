/-
  The law EvalNumbers in plain numbers.
-/
import Derived.Test.YteedbhkofgkpoaaEv5
namespace Go.Proofs.Yteedbhkofgkpoaa
open Go.RowKit Ev
set_option linter.unusedVariables false
set_option linter.unusedSimpArgs false
theorem numd_ok (o : Nat) (a b n : Int) (h : work o a b = (n, 0)) : numd o a b = (num n, 0) := by
  unfold numd
  rw [h]
  simp
theorem numd_bad (o : Nat) (a b f n : Int) (h : work o a b = (n, f)) (hf : f ≠ 0) : numd o a b = (nul, f) := by
  unfold numd
  rw [h]
  simp [hf]
theorem chk_ok {r : Int} (h : In64 r) : chk r = (r, 0) := by unfold chk; rw [if_pos h]
theorem chk_bad {r : Int} (h : ¬ In64 r) : chk r = (0, 22) := by unfold chk; rw [if_neg h]
theorem plainA (a b : Int) (ha : In64 a) : (In64 (a + b) ∧ numd 0 a b = (num (a + b), 0) ∧ numd 1 (a + b) b = (num a, 0)) ∨ numd 0 a b = (nul, 22) := by
  by_cases h : In64 (a + b)
  · refine .inl ⟨h, numd_ok 0 a b _ (chk_ok h), numd_ok 1 _ b _ ?_⟩
    show chk (a + b - b) = _
    rw [Int.add_sub_cancel]
    exact chk_ok ha
  · exact .inr (numd_bad 0 a b 22 0 (chk_bad h) (by omega))
theorem plainB (a b : Int) (ha : In64 a) (hb : In64 b) : (b = 0 ∧ numd 3 a b = (nul, 23) ∧ numd 4 a b = (nul, 23)) ∨ (b = -1 ∧ numd 3 a b = (nul, 22) ∧ numd 4 a b = (num 0, 0)) ∨
    (∃ q r p, In64 q ∧ In64 r ∧ In64 p ∧ numd 3 a b = (num q, 0) ∧ numd 4 a b = (num r, 0) ∧ numd 2 q b = (num p, 0) ∧ numd 0 p r = (num a, 0)) := by
  by_cases h0 : b = 0
  · exact .inl ⟨h0, numd_bad 3 a b 23 0 (by simp [work, h0]) (by omega), numd_bad 4 a b 23 0 (by simp [work, h0]) (by omega)⟩
  · by_cases h1 : In64 (a.tdiv b)
    · have e := Int.mul_tdiv_add_tmod a b
      have e2 : a.tdiv b * b = a - a.tmod b := by rw [Int.mul_comm]; omega
      have hm := Int.natAbs_tmod a b
      have hm2 : a.natAbs % b.natAbs ≤ a.natAbs := Nat.mod_le _ _
      have hm3 : a.natAbs % b.natAbs < b.natAbs := Nat.mod_lt _ (by omega)
      have hs : (0 ≤ a → 0 ≤ a.tmod b) ∧ (a ≤ 0 → a.tmod b ≤ 0) := by
        refine ⟨fun h => Int.tmod_nonneg b h, fun h => ?_⟩
        have := Int.tmod_nonneg b (show 0 ≤ -a by omega)
        rw [Int.neg_tmod] at this
        omega
      have hr : In64 (a.tmod b) := by unfold In64 at *; omega
      have hp : In64 (a.tdiv b * b) := by rw [e2]; unfold In64 at *; omega
      refine .inr (.inr ⟨a.tdiv b, a.tmod b, a.tdiv b * b, h1, hr, hp, numd_ok 3 a b _ ?_, numd_ok 4 a b _ ?_, numd_ok 2 _ b _ (chk_ok hp), numd_ok 0 _ _ _ ?_⟩)
      · simp only [work]; rw [if_neg h0]; exact chk_ok h1
      · simp only [work]; rw [if_neg h0]
      · show chk (a.tdiv b * b + a.tmod b) = _
        rw [e2, show a - a.tmod b + a.tmod b = a by omega]
        exact chk_ok ha
    · have hb1 : b = -1 := by
        by_cases h : b = -1
        · exact h
        · exact absurd (tdiv_in ha h0 h) h1
      refine .inr (.inl ⟨hb1, numd_bad 3 a b 22 0 ?_ (by omega), numd_ok 4 a b 0 ?_⟩)
      · simp only [work]; rw [if_neg h0]; exact chk_bad h1
      · simp only [work]; rw [if_neg h0, hb1]; simp
end Go.Proofs.Yteedbhkofgkpoaa
