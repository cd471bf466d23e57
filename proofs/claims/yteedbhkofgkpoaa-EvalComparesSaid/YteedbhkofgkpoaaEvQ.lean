/-
  The walk of the law EvalCompares.
-/
import Derived.Test.YteedbhkofgkpoaaEvP
namespace Go.Proofs.Yteedbhkofgkpoaa
open Go.RowKit Ev
set_option maxRecDepth 100000
set_option linter.unusedVariables false
set_option linter.unusedSimpArgs false
def AnsB (s : ByteArray) (x y : Int) (b : Bool) : Prop := ∀ W, Calls Try.prog 20 #[.string s, .int .i64 x, .int .i64 y] W fun e w' => e = .returned (.bool b) ∧ Below W.heap.size W w'
set_option maxHeartbeats 2000000 in
theorem compares_of (x y : Int) (w : World) (l e g : Bool) (h : (l = true ∧ e = false ∧ g = false) ∨ (l = false ∧ e = true ∧ g = false) ∨ (l = false ∧ e = false ∧ g = true)) (hxy : (x == y) = e)
    (h1 : AnsB ⟨#[60]⟩ x y l) (h2 : AnsB ⟨#[61]⟩ x y e) (h3 : AnsB ⟨#[62]⟩ x y g) (h4 : AnsB ⟨#[60, 61]⟩ x y (l || e)) (h5 : AnsB ⟨#[62, 61]⟩ x y (g || e)) (h6 : AnsB ⟨#[60, 62]⟩ x y (!e)) (h7 : AnsB ⟨#[62]⟩ y x l) (h8 : AnsB ⟨#[61]⟩ y x e) :
    Calls Try.prog 7 #[.int .i64 x, .int .i64 y] w fun e w' => e = .returned (.bool true) ∧ Below w.heap.size w w' := by
  unfold AnsB at *
  rcases h with ⟨rfl, rfl, rfl⟩ | ⟨rfl, rfl, rfl⟩ | ⟨rfl, rfl, rfl⟩
  · simp only [Bool.or_false, Bool.false_or, Bool.true_or, Bool.or_true, Bool.not_false, Bool.not_true] at h4 h5 h6
    go_enter Try.func7, Try.ntmps7
    go_wp2_with (fail)
    go_at_call 8
    refine (awake_any _).mono ?_
    rintro e w1 ⟨rfl, hB1⟩
    go_wp2_with (fail)
    refine (h1 _).mono ?_
    rintro e w2 ⟨rfl, hC⟩
    have hB2 := hB1.trans (hC.mono hB1.size)
    clear hB1 hC
    go_wp2_with (fail)
    refine (h2 _).mono ?_
    rintro e w3 ⟨rfl, hC⟩
    have hB3 := hB2.trans (hC.mono hB2.size)
    clear hB2 hC
    go_wp2_with (fail)
    refine (h3 _).mono ?_
    rintro e w4 ⟨rfl, hC⟩
    have hB4 := hB3.trans (hC.mono hB3.size)
    clear hB3 hC
    go_wp2
    go_loop [9, 31] (fun n k => (k = .int .i64 0 ∧ n = .int .i64 0) ∨ (k = .int .i64 1 ∧ n = .int .i64 1) ∨ (k = .int .i64 2 ∧ n = .int .i64 1) ∨ (k = .int .i64 3 ∧ n = .int .i64 1)) (fun _ k => 3 - (intOf k).toNat)
    case atStart => exact .inl ⟨rfl, rfl⟩
    case round =>
      rcases hrel with ⟨rfl, rfl⟩ | ⟨rfl, rfl⟩ | ⟨rfl, rfl⟩ | ⟨rfl, rfl⟩
      · go_wp2
        go_round
        case rel => exact .inr (.inl ⟨by go_num, by go_num⟩)
        case measure => simp [intOf]
      · go_wp2
        go_round
        case rel => exact .inr (.inr (.inl ⟨by go_num, by go_num⟩))
        case measure => simp [intOf]
      · go_wp2
        go_round
        case rel => exact .inr (.inr (.inr ⟨by go_num, by go_num⟩))
        case measure => simp [intOf]
      · have hB5 := hB4.alloc hB4.size (.cells #[.bool true, .bool false, .bool false] 4)
        clear hB4
        go_wp2_with (fail)
        refine (h4 _).mono ?_
        rintro e w6 ⟨rfl, hC⟩
        have hB6 := hB5.trans (hC.mono hB5.size)
        clear hB5 hC
        go_wp2_with (fail)
        refine (h5 _).mono ?_
        rintro e w7 ⟨rfl, hC⟩
        have hB7 := hB6.trans (hC.mono hB6.size)
        clear hB6 hC
        go_wp2_with (fail)
        refine (h6 _).mono ?_
        rintro e w8 ⟨rfl, hC⟩
        have hB8 := hB7.trans (hC.mono hB7.size)
        clear hB7 hC
        go_wp2_with (fail)
        refine (h7 _).mono ?_
        rintro e w9 ⟨rfl, hC⟩
        have hB9 := hB8.trans (hC.mono hB8.size)
        clear hB8 hC
        go_wp2_with (fail)
        refine (h8 _).mono ?_
        rintro e w10 ⟨rfl, hC⟩
        have hB10 := hB9.trans (hC.mono hB9.size)
        clear hB9 hC
        go_wp2
        go_ret
        exact ⟨by simp, hB10⟩
  · simp only [Bool.or_false, Bool.false_or, Bool.true_or, Bool.or_true, Bool.not_false, Bool.not_true] at h4 h5 h6
    obtain rfl : x = y := eq_of_beq hxy
    clear hxy
    go_enter Try.func7, Try.ntmps7
    go_wp2_with (fail)
    go_at_call 8
    refine (awake_any _).mono ?_
    rintro e w1 ⟨rfl, hB1⟩
    go_wp2_with (fail)
    refine (h1 _).mono ?_
    rintro e w2 ⟨rfl, hC⟩
    have hB2 := hB1.trans (hC.mono hB1.size)
    clear hB1 hC
    go_wp2_with (fail)
    refine (h2 _).mono ?_
    rintro e w3 ⟨rfl, hC⟩
    have hB3 := hB2.trans (hC.mono hB2.size)
    clear hB2 hC
    go_wp2_with (fail)
    refine (h3 _).mono ?_
    rintro e w4 ⟨rfl, hC⟩
    have hB4 := hB3.trans (hC.mono hB3.size)
    clear hB3 hC
    go_wp2
    go_loop [9, 31] (fun n k => (k = .int .i64 0 ∧ n = .int .i64 0) ∨ (k = .int .i64 1 ∧ n = .int .i64 0) ∨ (k = .int .i64 2 ∧ n = .int .i64 1) ∨ (k = .int .i64 3 ∧ n = .int .i64 1)) (fun _ k => 3 - (intOf k).toNat)
    case atStart => exact .inl ⟨rfl, rfl⟩
    case round =>
      rcases hrel with ⟨rfl, rfl⟩ | ⟨rfl, rfl⟩ | ⟨rfl, rfl⟩ | ⟨rfl, rfl⟩
      · go_wp2
        go_round
        case rel => exact .inr (.inl ⟨by go_num, by go_num⟩)
        case measure => simp [intOf]
      · go_wp2
        go_round
        case rel => exact .inr (.inr (.inl ⟨by go_num, by go_num⟩))
        case measure => simp [intOf]
      · go_wp2
        go_round
        case rel => exact .inr (.inr (.inr ⟨by go_num, by go_num⟩))
        case measure => simp [intOf]
      · have hB5 := hB4.alloc hB4.size (.cells #[.bool false, .bool true, .bool false] 4)
        clear hB4
        go_wp2_with (fail)
        refine (h4 _).mono ?_
        rintro e w6 ⟨rfl, hC⟩
        have hB6 := hB5.trans (hC.mono hB5.size)
        clear hB5 hC
        go_wp2_with (fail)
        refine (h5 _).mono ?_
        rintro e w7 ⟨rfl, hC⟩
        have hB7 := hB6.trans (hC.mono hB6.size)
        clear hB6 hC
        go_wp2_with (fail)
        refine (h6 _).mono ?_
        rintro e w8 ⟨rfl, hC⟩
        have hB8 := hB7.trans (hC.mono hB7.size)
        clear hB7 hC
        go_wp2_with (fail)
        refine (h7 _).mono ?_
        rintro e w9 ⟨rfl, hC⟩
        have hB9 := hB8.trans (hC.mono hB8.size)
        clear hB8 hC
        go_wp2_with (fail)
        refine (h8 _).mono ?_
        rintro e w10 ⟨rfl, hC⟩
        have hB10 := hB9.trans (hC.mono hB9.size)
        clear hB9 hC
        go_wp2
        go_ret
        exact ⟨by simp, hB10⟩
  · simp only [Bool.or_false, Bool.false_or, Bool.true_or, Bool.or_true, Bool.not_false, Bool.not_true] at h4 h5 h6
    go_enter Try.func7, Try.ntmps7
    go_wp2_with (fail)
    go_at_call 8
    refine (awake_any _).mono ?_
    rintro e w1 ⟨rfl, hB1⟩
    go_wp2_with (fail)
    refine (h1 _).mono ?_
    rintro e w2 ⟨rfl, hC⟩
    have hB2 := hB1.trans (hC.mono hB1.size)
    clear hB1 hC
    go_wp2_with (fail)
    refine (h2 _).mono ?_
    rintro e w3 ⟨rfl, hC⟩
    have hB3 := hB2.trans (hC.mono hB2.size)
    clear hB2 hC
    go_wp2_with (fail)
    refine (h3 _).mono ?_
    rintro e w4 ⟨rfl, hC⟩
    have hB4 := hB3.trans (hC.mono hB3.size)
    clear hB3 hC
    go_wp2
    go_loop [9, 31] (fun n k => (k = .int .i64 0 ∧ n = .int .i64 0) ∨ (k = .int .i64 1 ∧ n = .int .i64 0) ∨ (k = .int .i64 2 ∧ n = .int .i64 0) ∨ (k = .int .i64 3 ∧ n = .int .i64 1)) (fun _ k => 3 - (intOf k).toNat)
    case atStart => exact .inl ⟨rfl, rfl⟩
    case round =>
      rcases hrel with ⟨rfl, rfl⟩ | ⟨rfl, rfl⟩ | ⟨rfl, rfl⟩ | ⟨rfl, rfl⟩
      · go_wp2
        go_round
        case rel => exact .inr (.inl ⟨by go_num, by go_num⟩)
        case measure => simp [intOf]
      · go_wp2
        go_round
        case rel => exact .inr (.inr (.inl ⟨by go_num, by go_num⟩))
        case measure => simp [intOf]
      · go_wp2
        go_round
        case rel => exact .inr (.inr (.inr ⟨by go_num, by go_num⟩))
        case measure => simp [intOf]
      · have hB5 := hB4.alloc hB4.size (.cells #[.bool false, .bool false, .bool true] 4)
        clear hB4
        go_wp2_with (fail)
        refine (h4 _).mono ?_
        rintro e w6 ⟨rfl, hC⟩
        have hB6 := hB5.trans (hC.mono hB5.size)
        clear hB5 hC
        go_wp2_with (fail)
        refine (h5 _).mono ?_
        rintro e w7 ⟨rfl, hC⟩
        have hB7 := hB6.trans (hC.mono hB6.size)
        clear hB6 hC
        go_wp2_with (fail)
        refine (h6 _).mono ?_
        rintro e w8 ⟨rfl, hC⟩
        have hB8 := hB7.trans (hC.mono hB7.size)
        clear hB7 hC
        go_wp2_with (fail)
        refine (h7 _).mono ?_
        rintro e w9 ⟨rfl, hC⟩
        have hB9 := hB8.trans (hC.mono hB8.size)
        clear hB8 hC
        go_wp2_with (fail)
        refine (h8 _).mono ?_
        rintro e w10 ⟨rfl, hC⟩
        have hB10 := hB9.trans (hC.mono hB9.size)
        clear hB9 hC
        go_wp2
        go_ret
        exact ⟨by simp, hB10⟩
theorem answers (o : Nat) (ho : o ≤ 5) (x y : Int) (hx : In64 x) (hy : In64 y) (b : Bool) (hb : b = cmpO o (cmpI x y)) : AnsB (cmpOS o) x y b := fun W => by
  rw [hb]
  exact is_any o ho x y hx hy W
theorem evalCompares_walk (x y : Int) (w : World) (hx1 : -9223372036854775808 ≤ x) (hx2 : x ≤ 9223372036854775807) (hy1 : -9223372036854775808 ≤ y) (hy2 : y ≤ 9223372036854775807) :
    Calls Try.prog 7 #[.int .i64 x, .int .i64 y] w fun e w' => e = .returned (.bool true) ∧ Below w.heap.size w w' := by
  have hx : In64 x := ⟨hx1, by omega⟩
  have hy : In64 y := ⟨hy1, by omega⟩
  have key : ∀ l e g : Bool, ((l = true ∧ e = false ∧ g = false) ∨ (l = false ∧ e = true ∧ g = false) ∨ (l = false ∧ e = false ∧ g = true)) → (x == y) = e → l = cmpO 2 (cmpI x y) → e = cmpO 0 (cmpI x y) → g = cmpO 4 (cmpI x y) → (l || e) = cmpO 3 (cmpI x y) → (g || e) = cmpO 5 (cmpI x y) → (!e) = cmpO 1 (cmpI x y) → l = cmpO 4 (cmpI y x) → e = cmpO 0 (cmpI y x) →
      Calls Try.prog 7 #[.int .i64 x, .int .i64 y] w fun e w' => e = .returned (.bool true) ∧ Below w.heap.size w w' :=
    fun l e g h hxy a b c d f i j k => compares_of x y w l e g h hxy (answers 2 (by omega) x y hx hy l a) (answers 0 (by omega) x y hx hy e b) (answers 4 (by omega) x y hx hy g c) (answers 3 (by omega) x y hx hy _ d) (answers 5 (by omega) x y hx hy _ f) (answers 1 (by omega) x y hx hy _ i) (answers 4 (by omega) y x hy hx l j) (answers 0 (by omega) y x hy hx e k)
  rcases Int.lt_trichotomy x y with h | h | h
  · have e1 : cmpI x y = -1 := by unfold cmpI; rw [if_pos h]
    have e2 : cmpI y x = 1 := by unfold cmpI; rw [if_neg (by omega), if_pos h]
    rw [e1, e2] at key
    exact key true false false (.inl ⟨rfl, rfl, rfl⟩) (by rw [beq_eq_false_iff_ne]; omega) (by decide) (by decide) (by decide) (by decide) (by decide) (by decide) (by decide) (by decide)
  · have e1 : cmpI x y = 0 := by unfold cmpI; rw [if_neg (by omega), if_neg (by omega)]
    have e2 : cmpI y x = 0 := by unfold cmpI; rw [if_neg (by omega), if_neg (by omega)]
    rw [e1, e2] at key
    exact key false true false (.inr (.inl ⟨rfl, rfl, rfl⟩)) (by rw [beq_iff_eq]; exact h) (by decide) (by decide) (by decide) (by decide) (by decide) (by decide) (by decide) (by decide)
  · have e1 : cmpI x y = 1 := by unfold cmpI; rw [if_neg (by omega), if_pos h]
    have e2 : cmpI y x = -1 := by unfold cmpI; rw [if_pos h]
    rw [e1, e2] at key
    exact key false false true (.inr (.inr ⟨rfl, rfl, rfl⟩)) (by rw [beq_eq_false_iff_ne]; omega) (by decide) (by decide) (by decide) (by decide) (by decide) (by decide) (by decide) (by decide)
end Go.Proofs.Yteedbhkofgkpoaa
