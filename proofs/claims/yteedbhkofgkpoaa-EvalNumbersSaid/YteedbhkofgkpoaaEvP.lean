/-
  The law EvalCompares.
-/
import Derived.Test.YteedbhkofgkpoaaEvO
namespace Go.Proofs.Yteedbhkofgkpoaa
open Go.RowKit Ev
set_option maxRecDepth 100000
set_option linter.unusedVariables false
set_option linter.unusedSimpArgs false
theorem one_num (x y : Int) : one (num x) (num y) = cmpI x y := by
  have h : cmpS emp emp = 0 := by simp [cmpS, Op.bytesLess]
  unfold one num
  simp only [h]
  unfold first3 cmpI
  repeat' split
  all_goals omega
theorem compares_worked (o : Nat) (x y : Int) : workX (.bin (o + 7) (.int x) (.int y)) = (tr (cmpO o (cmpI x y)), 0) := by
  have h0 : two (o + 7) (num x) (num y, 0) = (tr (cmpO o (cmpI x y)), 0) := by
    have h := one_num x y
    unfold two
    unfold num at h ⊢
    simp [h]
    omega
  show (if (0 : Int) ≠ 0 then (nul, 0) else two (o + 7) (num x) (num y, 0)) = _
  rw [if_neg (by simp), h0]
theorem binS_cmp (o : Nat) : binS (o + 7) = cmpOS o := by
  unfold binS
  rw [if_neg (by omega), if_neg (by omega), if_neg (by omega), Nat.add_sub_cancel]
theorem is_any (o : Nat) (ho : o ≤ 5) (x y : Int) (hx : In64 x) (hy : In64 y) (w : World) : Calls Try.prog 20 #[.string (cmpOS o), .int .i64 x, .int .i64 y] w fun e w' => e = .returned (.bool (cmpO o (cmpI x y))) ∧ Below w.heap.size w w' := by
  obtain ⟨b, hb⟩ : ∃ b, b = cmpO o (cmpI x y) := ⟨_, rfl⟩
  obtain ⟨s, hs⟩ : ∃ s, s = cmpOS o := ⟨_, rfl⟩
  have hbin := bin_any (o + 7) x y
  have hw := work_any (.bin (o + 7) (.int x) (.int y)) ⟨by omega, hx, hy⟩
  unfold WorkC at hw
  rw [compares_worked o, ← hb] at hw
  have hw' := fun g W h => hw ⟨#[98, 105, 110]⟩ (binS (o + 7)) 0 (.slice (some ⟨g, 0, none⟩) 2 2) (.slice none 0 0) (.slice none 0 0) W h
  rw [binS_cmp, ← hs] at hbin hw'
  rw [← hb, ← hs]
  clear hw hb hs hx hy ho
  unfold binV nd at hbin
  unfold wv vv nd at hw'
  cases b with
  | true =>
    simp only [tr, cond_true] at hw'
    go_enter Try.func20, Try.ntmps20
    go_wp2_with (fail)
    go_at_call 17
    refine (hbin w).mono ?_
    rintro e w1 ⟨⟨g, rfl, hx⟩, hB⟩
    go_wp2_with (fail)
    go_at_call 14
    refine (hw' g w1 hx).mono ?_
    rintro e w2 ⟨rfl, hB2⟩
    have hb2 := hB.trans (hB2.mono hB.size)
    go_wp2
    go_ret
    exact ⟨rfl, hb2.alloc hb2.size _⟩
  | false =>
    simp only [tr, cond_false] at hw'
    go_enter Try.func20, Try.ntmps20
    go_wp2_with (fail)
    go_at_call 17
    refine (hbin w).mono ?_
    rintro e w1 ⟨⟨g, rfl, hx⟩, hB⟩
    go_wp2_with (fail)
    go_at_call 14
    refine (hw' g w1 hx).mono ?_
    rintro e w2 ⟨rfl, hB2⟩
    have hb2 := hB.trans (hB2.mono hB.size)
    go_wp2
    go_ret
    exact ⟨rfl, hb2.alloc hb2.size _⟩
end Go.Proofs.Yteedbhkofgkpoaa
