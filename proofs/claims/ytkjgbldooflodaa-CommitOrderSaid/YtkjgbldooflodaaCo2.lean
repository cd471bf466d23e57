/-
  The heap of prints: heap.down, heap.Pop, heap.Push: the texts are the same ones.
-/
import Derived.Test.YtkjgbldooflodaaCo0
namespace Go.Proofs.Ytkjgbldooflodaa
open Go.RowKit Cm Mp
set_option maxRecDepth 100000
set_option linter.unusedVariables false
set_option linter.unusedSimpArgs false
set_option maxHeartbeats 2000000 in
theorem down_gen (B fb rb c n : Nat) (l : List ByteArray) (w : World) (h : Bx w B fb rb c l) (hn : n ≤ l.length) (hl : l.length ≤ 1000000) :
    Calls Try.prog 52 #[lp fb, .int .i64 0, .int .i64 n] w fun e w' => ∃ bo, e = .returned (.bool bo) ∧ ∃ l', Bx w' B fb rb c l' ∧ l'.Perm l ∧ But fb rb w w' := by
  unfold lp
  go_enter Try.func52, Try.ntmps52
  go_wp2
  go_loopw [7] (fun v wr => ∃ (i : Nat) (l1 : List ByteArray), v = .int .i64 i ∧ i ≤ n ∧ Bx wr B fb rb c l1 ∧ Hid (l1.Perm l) ∧ But fb rb w wr) (fun v _ => n - (intOf v).toNat)
  case atStart => exact ⟨0, l, by first | rfl | trivial, Nat.zero_le _, h, Lib.hid (List.Perm.refl _), But.of_below (Below.refl _ _)⟩
  case round =>
    obtain ⟨i, l1, rfl, hi, hb, HP, hbut⟩ := hrel
    have hn1 : n ≤ l1.length := by rw [HP.out.length_eq]; exact hn
    have hl1 : l1.length ≤ 1000000 := by rw [HP.out.length_eq]; exact hl
    have w1 : IntKind.i64.wrap (2 * (i : Int)) = 2 * (i : Int) := wrap_fit _ (by omega) (by omega)
    have w2 : IntKind.i64.wrap (2 * (i : Int) + 1) = 2 * (i : Int) + 1 := wrap_fit _ (by omega) (by omega)
    have w3 : IntKind.i64.wrap (2 * (i : Int) + 1 + 1) = 2 * (i : Int) + 1 + 1 := wrap_fit _ (by omega) (by omega)
    by_cases c1 : n ≤ 2 * i + 1
    · have f1 : decide ((n : Int) ≤ 2 * (i : Int) + 1) = true := decide_eq_true (by omega)
      go_wp2
      go_ret
      exact ⟨_, rfl, l1, hb, HP.out, hbut⟩
    · have f1 : decide ((n : Int) ≤ 2 * (i : Int) + 1) = false := decide_eq_false (by omega)
      have f2 : decide (2 * (i : Int) + 1 < 0) = false := decide_eq_false (by omega)
      have LESS : ∀ (wx : World), Bx wx B fb rb c l1 → ∀ (x y : Int) (a b : Nat), x = a → y = b → a < n → b < n → Calls Try.prog 88 #[.slice (some ⟨rb, 0, none⟩) l1.length c, .int .i64 x, .int .i64 y] wx fun e w' => ∃ bo, e = .returned (.bool bo) ∧ Below wx.heap.size wx w' := fun wx hx x y a b hxa hyb ha hb => by
        subst hxa hyb
        exact less_any B rb c l1.length l1 a b wx hx.row rfl (by omega) (by omega) hl1
      have SWAP : ∀ (wx : World), Bx wx B fb rb c l1 → ∀ (x y : Int) (a b : Nat), x = a → y = b → a < n → b < n → Calls Try.prog 91 #[.slice (some ⟨rb, 0, none⟩) l1.length c, .int .i64 x, .int .i64 y] wx fun e w' => e = .returned (.tuple #[]) ∧ w'.ownsRow B 9 1 (.slice (some ⟨rb, 0, none⟩) l1.length c) l1.length ((swapL l1 a b).map Value.string) ∧ wx.grownBy w' (some rb) := fun wx hx x y a b hxa hyb ha hb => by
        subst hxa hyb
        exact swap_any B rb c l1.length l1 a b wx hx.row rfl (by omega) (by omega) hl1
      by_cases c2 : 2 * i + 2 < n
      · have f3 : decide (2 * (i : Int) + 1 + 1 < (n : Int)) = true := decide_eq_true (by omega)
        have m0 := mLess hb.cell
        have q0 := LESS wr hb (2 * (i : Int) + 1 + 1) (2 * (i : Int) + 1) (2 * i + 2) (2 * i + 1) (by omega) (by omega) (by omega) (by omega)
        go_wp2_with (fail)
        go_at_call 88
        with_reducible refine q0.mono ?_
        rintro e w4 ⟨b1, rfl, hb4⟩
        have hx4 := hb.below hb4
        have hbut4 := hbut.trans (But.of_below hb4)
        clear m0 q0
        cases b1
        · have m1 := mLess (hx4).cell
          have q1 := LESS w4 hx4 (2 * (i : Int) + 1) i (2 * i + 1) i (by omega) (by omega) (by omega) (by omega)
          go_wp2_with (fail)
          go_at_call 88
          with_reducible refine q1.mono ?_
          rintro e w5 ⟨b2, rfl, hb5⟩
          have hx5 := hx4.below hb5
          have hbut5 := hbut4.trans (But.of_below hb5)
          clear m1 q1
          cases b2
          · go_wp2
            go_ret
            exact ⟨_, rfl, l1, hx5, HP.out, hbut5⟩
          · have m2 := mSwap hx5.cell
            have q2 := SWAP w5 hx5 i (2 * (i : Int) + 1) i (2 * i + 1) (by omega) (by omega) (by omega) (by omega)
            go_wp2_with (fail)
            go_at_call 91
            with_reducible refine q2.mono ?_
            rintro e w6 ⟨rfl, hr6, hg6⟩
            have hx6 := hx5.swapped (swapL_length l1 i (2 * i + 1)) hg6 hr6
            have hbut6 := hbut5.trans (But.of_grown hg6)
            have HP6 := Lib.hid ((swapL_perm l1 i (2 * i + 1) (by omega) (by omega)).trans HP.out)
            clear m2 q2 hr6 hg6
            go_wp2
            go_roundw
            case rel => exact ⟨(2 * i + 1), _, by go_num, by omega, hx6, HP6, hbut6⟩
            case measure => simp [intOf]; omega
        · have m1 := mLess (hx4).cell
          have q1 := LESS w4 hx4 (2 * (i : Int) + 1 + 1) i (2 * i + 2) i (by omega) (by omega) (by omega) (by omega)
          go_wp2_with (fail)
          go_at_call 88
          with_reducible refine q1.mono ?_
          rintro e w5 ⟨b2, rfl, hb5⟩
          have hx5 := hx4.below hb5
          have hbut5 := hbut4.trans (But.of_below hb5)
          clear m1 q1
          cases b2
          · go_wp2
            go_ret
            exact ⟨_, rfl, l1, hx5, HP.out, hbut5⟩
          · have m2 := mSwap hx5.cell
            have q2 := SWAP w5 hx5 i (2 * (i : Int) + 1 + 1) i (2 * i + 2) (by omega) (by omega) (by omega) (by omega)
            go_wp2_with (fail)
            go_at_call 91
            with_reducible refine q2.mono ?_
            rintro e w6 ⟨rfl, hr6, hg6⟩
            have hx6 := hx5.swapped (swapL_length l1 i (2 * i + 2)) hg6 hr6
            have hbut6 := hbut5.trans (But.of_grown hg6)
            have HP6 := Lib.hid ((swapL_perm l1 i (2 * i + 2) (by omega) (by omega)).trans HP.out)
            clear m2 q2 hr6 hg6
            go_wp2
            go_roundw
            case rel => exact ⟨(2 * i + 2), _, by go_num, by omega, hx6, HP6, hbut6⟩
            case measure => simp [intOf]; omega
      · have f3 : decide (2 * (i : Int) + 1 + 1 < (n : Int)) = false := decide_eq_false (by omega)
        have m1 := mLess (hb).cell
        have q1 := LESS wr hb (2 * (i : Int) + 1) i (2 * i + 1) i (by omega) (by omega) (by omega) (by omega)
        go_wp2_with (fail)
        go_at_call 88
        with_reducible refine q1.mono ?_
        rintro e w5 ⟨b2, rfl, hb5⟩
        have hx5 := hb.below hb5
        have hbut5 := hbut.trans (But.of_below hb5)
        clear m1 q1
        cases b2
        · go_wp2
          go_ret
          exact ⟨_, rfl, l1, hx5, HP.out, hbut5⟩
        · have m2 := mSwap hx5.cell
          have q2 := SWAP w5 hx5 i (2 * (i : Int) + 1) i (2 * i + 1) (by omega) (by omega) (by omega) (by omega)
          go_wp2_with (fail)
          go_at_call 91
          with_reducible refine q2.mono ?_
          rintro e w6 ⟨rfl, hr6, hg6⟩
          have hx6 := hx5.swapped (swapL_length l1 i (2 * i + 1)) hg6 hr6
          have hbut6 := hbut5.trans (But.of_grown hg6)
          have HP6 := Lib.hid ((swapL_perm l1 i (2 * i + 1) (by omega) (by omega)).trans HP.out)
          clear m2 q2 hr6 hg6
          go_wp2
          go_roundw
          case rel => exact ⟨(2 * i + 1), _, by go_num, by omega, hx6, HP6, hbut6⟩
          case measure => simp [intOf]; omega
end Go.Proofs.Ytkjgbldooflodaa
