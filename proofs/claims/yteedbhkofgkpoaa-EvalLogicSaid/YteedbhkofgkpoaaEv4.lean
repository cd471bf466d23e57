/-
  Walks of the reference's order of values and of its arithmetic.
-/
import Derived.Test.YteedbhkofgkpoaaEv3
namespace Go.Proofs.Yteedbhkofgkpoaa
open Go.RowKit Ev
set_option maxRecDepth 100000
set_option linter.unusedVariables false
set_option linter.unusedSimpArgs false
theorem one_any (v u : Vl) (w : World) : Calls Try.prog 47 #[vv v, vv u] w fun e w' => e = .returned (.int .i64 (one v u)) ∧ Below w.heap.size w w' := by
  have hB : Below w.heap.size w ((w.alloc (.cells #[.int .i64 v.k, .int .i64 v.n, .string v.s] 38)).alloc (.cells #[.int .i64 u.k, .int .i64 u.n, .string u.s] 38)) := ((Below.refl _ _).alloc (Nat.le_refl _) _).alloc (by simp) _
  unfold vv
  by_cases a1 : v.k < u.k
  · rw [show one v u = -1 by unfold one first3 cmpI; simp [a1]]
    go_enter Try.func47, Try.ntmps47
    go_wp2
    go_ret
    exact ⟨rfl, hB⟩
  by_cases a2 : u.k < v.k
  · rw [show one v u = 1 by unfold one first3 cmpI; simp [a1, a2]]
    go_enter Try.func47, Try.ntmps47
    go_wp2
    go_ret
    exact ⟨rfl, hB⟩
  by_cases a3 : v.n < u.n
  · rw [show one v u = -1 by unfold one first3 cmpI; simp [a1, a2, a3]]
    go_enter Try.func47, Try.ntmps47
    go_wp2
    go_ret
    exact ⟨rfl, hB⟩
  by_cases a4 : u.n < v.n
  · rw [show one v u = 1 by unfold one first3 cmpI; simp [a1, a2, a3, a4]]
    go_enter Try.func47, Try.ntmps47
    go_wp2
    go_ret
    exact ⟨rfl, hB⟩
  cases a5 : Op.bytesLess v.s.toList u.s.toList
  · cases a6 : (v.s.toList == u.s.toList)
    · rw [show one v u = 1 by unfold one first3 cmpI cmpS; simp [a1, a2, a3, a4, a5, a6]]
      go_enter Try.func47, Try.ntmps47
      go_wp2
      go_ret
      exact ⟨rfl, hB⟩
    · rw [show one v u = 0 by unfold one first3 cmpI cmpS; simp [a1, a2, a3, a4, a5, a6]]
      go_enter Try.func47, Try.ntmps47
      go_wp2
      go_ret
      exact ⟨rfl, hB⟩
  · rw [show one v u = -1 by unfold one first3 cmpI cmpS; simp [a1, a2, a3, a4, a5]]
    go_enter Try.func47, Try.ntmps47
    go_wp2
    go_ret
    exact ⟨rfl, hB⟩
set_option maxHeartbeats 1000000 in
theorem rcompared_any (o : Nat) (ho : o ≤ 5) (v u : Vl) (w : World) :
    Calls Try.prog 36 #[.string (cmpOS o), vv v, vv u] w fun e w' => e = .returned (.bool (cmpO o (one v u))) ∧ Below w.heap.size w w' := by
  have hB : Below w.heap.size w ((w.alloc (.cells #[.int .i64 v.k, .int .i64 v.n, .string v.s] 38)).alloc (.cells #[.int .i64 u.k, .int .i64 u.n, .string u.s] 38)) := ((Below.refl _ _).alloc (Nat.le_refl _) _).alloc (by simp) _
  match o, ho with
  | 0, _ | 1, _ | 2, _ | 3, _ | 4, _ | 5, _ =>
    unfold cmpOS
    unfold vv
    go_enter Try.func36, Try.ntmps36
    go_wp2_with (fail)
    go_at_call 47
    refine (one_any v u _).mono ?_
    rintro e w5 ⟨rfl, hB5⟩
    go_wp2
    go_ret
    exact ⟨rfl, hB.trans (hB5.mono (by simp; omega))⟩
theorem nv_eq {r s : Int} (h : r = s) : Ending.returned (.tuple #[.int .i64 r, .int .i64 0]) = .returned (nv (s, 0)) := by rw [h]; rfl
theorem mul_over {a b : Int} (hb0 : b ≠ 0) (hb : In64 b) (h : ¬ In64 (a * b)) : (wrap64 (a * b)).tdiv b ≠ a := by
  intro hq
  have h1 := Int.mul_tdiv_add_tmod (wrap64 (a * b)) b
  rw [hq] at h1
  have h2 : ((wrap64 (a * b)).tmod b).natAbs < b.natAbs := by
    rw [Int.natAbs_tmod]
    exact Nat.mod_lt _ (by omega)
  have h3 : b * a = a * b := Int.mul_comm _ _
  unfold In64 at h hb
  generalize (wrap64 (a * b)).tmod b = m at h1 h2
  rw [h3] at h1
  unfold wrap64 at h1
  generalize a * b = p at h h1
  omega
set_option maxHeartbeats 2000000 in
theorem rnum0 (a b : Int) (w : World) (ha : In64 a) (hb : In64 b) : Calls Try.prog 35 #[.string (opS 0), .int .i64 a, .int .i64 b] w fun e w' => e = .returned (nv (work 0 a b)) ∧ w' = w := by
  show Calls _ _ #[.string ⟨#[43]⟩, _, _] _ fun e w' => e = .returned (nv (chk (a + b))) ∧ w' = w
  by_cases h : In64 (a + b)
  · rw [chk_in h]
    have HW := Lib.hid (wrap64_in' h)
    obtain ⟨r, hr⟩ : ∃ r, r = wrap64 (a + b) := ⟨_, rfl⟩
    have hrr : r = a + b := hr.trans HW.out
    go_enter Try.func35, Try.ntmps35
    go_wp2
    all_goals (go_ret2; exact ⟨nv_in HW.out, rfl⟩)
  · rw [chk_out h]
    unfold In64 at h ha hb
    have hw : wrap64 (a + b) = a + b ∨ (wrap64 (a + b) = a + b - 18446744073709551616 ∧ 9223372036854775807 < a + b) ∨ (wrap64 (a + b) = a + b + 18446744073709551616 ∧ a + b < -9223372036854775808) := by
      unfold wrap64; omega
    have hrg : -9223372036854775808 ≤ wrap64 (a + b) ∧ wrap64 (a + b) ≤ 9223372036854775807 := by unfold wrap64; omega
    generalize hr : wrap64 (a + b) = r at hw hrg
    go_enter Try.func35, Try.ntmps35
    go_wp2
    all_goals first | (exfalso; omega) | (go_ret2; exact ⟨rfl, rfl⟩)
set_option maxHeartbeats 2000000 in
theorem rnum1 (a b : Int) (w : World) (ha : In64 a) (hb : In64 b) : Calls Try.prog 35 #[.string (opS 1), .int .i64 a, .int .i64 b] w fun e w' => e = .returned (nv (work 1 a b)) ∧ w' = w := by
  show Calls _ _ #[.string ⟨#[45]⟩, _, _] _ fun e w' => e = .returned (nv (chk (a - b))) ∧ w' = w
  by_cases h : In64 (a - b)
  · rw [chk_in h]
    have HW := Lib.hid (wrap64_in' h)
    obtain ⟨r, hr⟩ : ∃ r, r = wrap64 (a - b) := ⟨_, rfl⟩
    have hrr : r = a - b := hr.trans HW.out
    go_enter Try.func35, Try.ntmps35
    go_wp2
    all_goals (go_ret2; exact ⟨nv_in HW.out, rfl⟩)
  · rw [chk_out h]
    unfold In64 at h ha hb
    have hw : wrap64 (a - b) = a - b ∨ (wrap64 (a - b) = a - b - 18446744073709551616 ∧ 9223372036854775807 < a - b) ∨ (wrap64 (a - b) = a - b + 18446744073709551616 ∧ a - b < -9223372036854775808) := by
      unfold wrap64; omega
    have hrg : -9223372036854775808 ≤ wrap64 (a - b) ∧ wrap64 (a - b) ≤ 9223372036854775807 := by unfold wrap64; omega
    generalize hr : wrap64 (a - b) = r at hw hrg
    go_enter Try.func35, Try.ntmps35
    go_wp2
    all_goals first | (exfalso; omega) | (go_ret2; exact ⟨rfl, rfl⟩)
set_option maxHeartbeats 2000000 in
theorem rnum2 (a b : Int) (w : World) (ha : In64 a) (hb : In64 b) : Calls Try.prog 35 #[.string (opS 2), .int .i64 a, .int .i64 b] w fun e w' => e = .returned (nv (work 2 a b)) ∧ w' = w := by
  show Calls _ _ #[.string ⟨#[42]⟩, _, _] _ fun e w' => e = .returned (nv (chk (a * b))) ∧ w' = w
  by_cases ha0 : a = 0
  · subst ha0
    rw [Int.zero_mul, chk_in (by unfold In64; omega)]
    go_enter Try.func35, Try.ntmps35
    go_wp2
    all_goals (go_ret2; exact ⟨rfl, rfl⟩)
  by_cases hb0 : b = 0
  · subst hb0
    rw [Int.mul_zero, chk_in (by unfold In64; omega)]
    go_enter Try.func35, Try.ntmps35
    go_wp2
    all_goals (go_ret2; exact ⟨rfl, rfl⟩)
  have a0 : (a == 0) = false := beq_eq_false_iff_ne.2 ha0
  have b0 : (b == 0) = false := beq_eq_false_iff_ne.2 hb0
  by_cases hs : (a = -1 ∧ b = -9223372036854775808) ∨ (b = -1 ∧ a = -9223372036854775808)
  · rcases hs with ⟨rfl, rfl⟩ | ⟨rfl, rfl⟩
    · rw [chk_out (by unfold In64; omega)]
      go_enter Try.func35, Try.ntmps35
      go_wp2
      all_goals (go_ret2; exact ⟨rfl, rfl⟩)
    · rw [chk_out (by unfold In64; omega)]
      go_enter Try.func35, Try.ntmps35
      go_wp2
      all_goals (go_ret2; exact ⟨rfl, rfl⟩)
  · by_cases h : In64 (a * b)
    · rw [chk_in h]
      have HW := Lib.hid (wrap64_in' h)
      have hq : wrap64 ((wrap64 (a * b)).tdiv b) = a := by
        rw [HW.out, Int.mul_tdiv_cancel _ hb0, wrap64_in' ha]
      generalize hr : wrap64 (a * b) = r at hq
      have HR := Lib.hid (And.intro ha (And.intro hb hs))
      clear ha hb hs h ha0
      by_cases g1 : a = -1
      · have e1 : (a == -1) = true := beq_iff_eq.2 g1
        have e2 : (b == -9223372036854775808) = false := by rw [beq_eq_false_iff_ne]; have := HR.out.2.2; omega
        have e4 : (a == -9223372036854775808) = false := by rw [beq_eq_false_iff_ne]; omega
        cases e3 : (b == -1)
        · clear g1
          go_enter Try.func35, Try.ntmps35
          go_wp2
          all_goals (go_ret2; exact ⟨nv_eq HW.out, rfl⟩)
        · clear g1
          go_enter Try.func35, Try.ntmps35
          go_wp2
          all_goals (go_ret2; exact ⟨nv_eq HW.out, rfl⟩)
      · have e1 : (a == -1) = false := beq_eq_false_iff_ne.2 g1
        by_cases g3 : b = -1
        · have e3 : (b == -1) = true := beq_iff_eq.2 g3
          have e4 : (a == -9223372036854775808) = false := by rw [beq_eq_false_iff_ne]; have := HR.out.2.2; omega
          clear g1 g3
          go_enter Try.func35, Try.ntmps35
          go_wp2
          all_goals (go_ret2; exact ⟨nv_eq HW.out, rfl⟩)
        · have e3 : (b == -1) = false := beq_eq_false_iff_ne.2 g3
          clear g1 g3
          go_enter Try.func35, Try.ntmps35
          go_wp2
          all_goals (go_ret2; exact ⟨nv_eq HW.out, rfl⟩)
    · rw [chk_out h]
      have hne := mul_over hb0 hb h
      have hq : wrap64 ((wrap64 (a * b)).tdiv b) = (wrap64 (a * b)).tdiv b := by
        by_cases h1 : b = -1
        · exfalso
          subst h1
          apply h
          rw [Int.mul_neg, Int.mul_one]
          unfold In64 at ha ⊢
          omega
        · exact wrap64_in' (tdiv_in (by unfold In64 wrap64; omega) hb0 h1)
      generalize hr : wrap64 (a * b) = r at hq hne
      generalize hq2 : r.tdiv b = q at hq hne
      have hqb : (q != a) = true := bne_iff_ne.2 hne
      have HR := Lib.hid (And.intro ha (And.intro hb hs))
      clear ha hb hs h ha0 hne
      by_cases g1 : a = -1
      · have e1 : (a == -1) = true := beq_iff_eq.2 g1
        have e2 : (b == -9223372036854775808) = false := by rw [beq_eq_false_iff_ne]; have := HR.out.2.2; omega
        have e4 : (a == -9223372036854775808) = false := by rw [beq_eq_false_iff_ne]; omega
        cases e3 : (b == -1)
        · clear g1
          go_enter Try.func35, Try.ntmps35
          go_wp2
          all_goals (go_ret2; exact ⟨rfl, rfl⟩)
        · clear g1
          go_enter Try.func35, Try.ntmps35
          go_wp2
          all_goals (go_ret2; exact ⟨rfl, rfl⟩)
      · have e1 : (a == -1) = false := beq_eq_false_iff_ne.2 g1
        by_cases g3 : b = -1
        · have e3 : (b == -1) = true := beq_iff_eq.2 g3
          have e4 : (a == -9223372036854775808) = false := by rw [beq_eq_false_iff_ne]; have := HR.out.2.2; omega
          clear g1 g3
          go_enter Try.func35, Try.ntmps35
          go_wp2
          all_goals (go_ret2; exact ⟨rfl, rfl⟩)
        · have e3 : (b == -1) = false := beq_eq_false_iff_ne.2 g3
          clear g1 g3
          go_enter Try.func35, Try.ntmps35
          go_wp2
          all_goals (go_ret2; exact ⟨rfl, rfl⟩)
set_option maxHeartbeats 2000000 in
theorem rnum3 (a b : Int) (w : World) (ha : In64 a) (hb : In64 b) : Calls Try.prog 35 #[.string (opS 3), .int .i64 a, .int .i64 b] w fun e w' => e = .returned (nv (work 3 a b)) ∧ w' = w := by
  show Calls _ _ #[.string ⟨#[47]⟩, _, _] _ fun e w' => e = .returned (nv (if b = 0 then (0, 23) else chk (a.tdiv b))) ∧ w' = w
  by_cases h0 : b = 0
  · rw [if_pos h0]
    subst h0
    go_enter Try.func35, Try.ntmps35
    go_wp2
    go_ret2
    exact ⟨rfl, rfl⟩
  · rw [if_neg h0]
    have c0 : (b == 0) = false := beq_eq_false_iff_ne.2 h0
    by_cases h1 : b = -1 ∧ a = -9223372036854775808
    · obtain ⟨rfl, rfl⟩ := h1
      rw [Int.tdiv_neg, Int.tdiv_one, chk_out (by unfold In64; omega)]
      go_enter Try.func35, Try.ntmps35
      go_wp2
      go_ret2
      exact ⟨rfl, rfl⟩
    · have hin : In64 (a.tdiv b) := by
        by_cases h2 : b = -1
        · subst h2
          rw [Int.tdiv_neg, Int.tdiv_one]
          unfold In64 at ha ⊢
          omega
        · exact tdiv_in ha h0 h2
      rw [chk_in hin]
      have HW := Lib.hid (wrap64_in' hin)
      have hs : a = -9223372036854775808 → (b == -1) = false := fun h => by rw [beq_eq_false_iff_ne]; omega
      clear hin
      by_cases h2 : a = -9223372036854775808
      · have h3 := hs h2
        have h4 : (a == -9223372036854775808) = true := beq_iff_eq.2 h2
        clear hs h1 h2
        go_enter Try.func35, Try.ntmps35
        go_wp2
        all_goals (go_ret2; exact ⟨nv_in HW.out, rfl⟩)
      · have h3 : (a == -9223372036854775808) = false := beq_eq_false_iff_ne.2 h2
        clear hs h1 h2
        go_enter Try.func35, Try.ntmps35
        go_wp2
        all_goals (go_ret2; exact ⟨nv_in HW.out, rfl⟩)
set_option maxHeartbeats 2000000 in
theorem rnum4 (a b : Int) (w : World) (ha : In64 a) (hb : In64 b) : Calls Try.prog 35 #[.string (opS 4), .int .i64 a, .int .i64 b] w fun e w' => e = .returned (nv (work 4 a b)) ∧ w' = w := by
  show Calls _ _ #[.string ⟨#[37]⟩, _, _] _ fun e w' => e = .returned (nv (if b = 0 then (0, 23) else (a.tmod b, 0))) ∧ w' = w
  by_cases h0 : b = 0
  · rw [if_pos h0]
    subst h0
    go_enter Try.func35, Try.ntmps35
    go_wp2
    go_ret2
    exact ⟨rfl, rfl⟩
  · rw [if_neg h0]
    have c0 : (b == 0) = false := beq_eq_false_iff_ne.2 h0
    by_cases h1 : b = -1
    · subst h1
      rw [Int.tmod_neg, Int.tmod_one]
      go_enter Try.func35, Try.ntmps35
      go_wp2
      go_ret2
      exact ⟨rfl, rfl⟩
    · have c1 : (b == -1) = false := beq_eq_false_iff_ne.2 h1
      clear ha hb
      go_enter Try.func35, Try.ntmps35
      go_wp2
      go_ret2
      exact ⟨rfl, rfl⟩
theorem rnumber_any (o : Nat) (ho : o ≤ 4) (a b : Int) (w : World) (ha : In64 a) (hb : In64 b) : Calls Try.prog 35 #[.string (opS o), .int .i64 a, .int .i64 b] w fun e w' => e = .returned (nv (work o a b)) ∧ w' = w := by
  match o, ho with
  | 0, _ => exact rnum0 a b w ha hb
  | 1, _ => exact rnum1 a b w ha hb
  | 2, _ => exact rnum2 a b w ha hb
  | 3, _ => exact rnum3 a b w ha hb
  | 4, _ => exact rnum4 a b w ha hb
end Go.Proofs.Yteedbhkofgkpoaa
