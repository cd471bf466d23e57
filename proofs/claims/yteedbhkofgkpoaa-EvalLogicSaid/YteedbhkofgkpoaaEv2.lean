/-
  Walks of eval's and the reference's arithmetic.
-/
import Derived.Test.YteedbhkofgkpoaaEv1
namespace Go.Proofs.Yteedbhkofgkpoaa
open Go.RowKit Ev
set_option maxRecDepth 100000
set_option linter.unusedVariables false
set_option linter.unusedSimpArgs false
theorem size_any (a : Int) (w : World) (ha : In64 a) : Calls Try.prog 89 #[.int .i64 a] w fun e w' => e = .returned (.int .u64 (a.natAbs : Int)) ∧ w' = w := by
  unfold In64 at ha
  by_cases h : a < 0
  · have e1 : IntKind.u64.wrap (-IntKind.u64.wrap a) = (a.natAbs : Int) := by rw [IntKind.wrap_u64, IntKind.wrap_u64]; omega
    go_enter Try.func89, Try.ntmps89
    go_wp2
    go_ret
    exact ⟨rfl, rfl⟩
  · have e1 : IntKind.u64.wrap a = (a.natAbs : Int) := by rw [IntKind.wrap_u64]; omega
    go_enter Try.func89, Try.ntmps89
    go_wp2
    go_ret
    exact ⟨rfl, rfl⟩
/-- What times tells: a number, and whether it is the product. -/
def TimesTells (a b : Int) (e : Ending) : Prop := ∃ n : Int, e = .returned (.tuple #[.int .i64 n, .bool (decide (In64 (a * b)))]) ∧ (In64 (a * b) → n = a * b)
theorem mul_cases (a b : Int) : (!(decide (a < 0) == decide (b < 0))) = true ∧ a * b = -((a.natAbs * b.natAbs : Nat) : Int) ∨ (!(decide (a < 0) == decide (b < 0))) = false ∧ a * b = ((a.natAbs * b.natAbs : Nat) : Int) := by
  rw [Int.natCast_mul]
  by_cases h1 : a < 0 <;> by_cases h2 : b < 0
  · right
    refine ⟨by simp [h1, h2], ?_⟩
    rw [show (a.natAbs : Int) = -a by omega, show (b.natAbs : Int) = -b by omega, Int.neg_mul_neg]
  · left
    refine ⟨by simp [h1, h2], ?_⟩
    rw [show (a.natAbs : Int) = -a by omega, show (b.natAbs : Int) = b by omega, Int.neg_mul, Int.neg_neg]
  · left
    refine ⟨by simp [h1, h2], ?_⟩
    rw [show (a.natAbs : Int) = a by omega, show (b.natAbs : Int) = -b by omega, Int.mul_neg, Int.neg_neg]
  · right
    refine ⟨by simp [h1, h2], ?_⟩
    rw [show (a.natAbs : Int) = a by omega, show (b.natAbs : Int) = b by omega]
set_option maxHeartbeats 1000000 in
theorem times_any (a b : Int) (w : World) (ha : In64 a) (hb : In64 b) : Calls Try.prog 64 #[.int .i64 a, .int .i64 b] w fun e w' => TimesTells a b e ∧ w' = w := by
  have hx : a.natAbs ≤ 9223372036854775808 := by unfold In64 at ha; omega
  have hy : b.natAbs ≤ 9223372036854775808 := by unfold In64 at hb; omega
  go_enter Try.func64, Try.ntmps64
  go_wp2_with (fail)
  go_at_call 89
  refine (size_any a w ha).mono ?_
  rintro e w' ⟨rfl, rfl⟩
  go_wp2_with (fail)
  go_at_call 89
  refine (size_any b _ hb).mono ?_
  rintro e w' ⟨rfl, rfl⟩
  go_wp2_with (fail)
  go_at_call 90
  refine (Try.bits_Mul64 a.natAbs b.natAbs (by omega) (by omega) _).mono ?_
  rintro e w' ⟨rfl, rfl⟩
  have hm := mul_cases a b
  have HA := Lib.hid (And.intro ha hb)
  clear ha hb hx hy
  obtain ⟨p, hp⟩ : ∃ p, p = a.natAbs * b.natAbs := ⟨_, rfl⟩
  rw [← hp] at hm ⊢
  clear hp
  by_cases hbig : 18446744073709551616 ≤ p
  · have h1 : 0 < p / 18446744073709551616 := by omega
    have hin : decide (In64 (a * b)) = false := by
      apply decide_eq_false
      unfold In64
      rcases hm with ⟨_, h⟩ | ⟨_, h⟩ <;> omega
    obtain ⟨hi, hhi⟩ : ∃ hi, hi = p / 18446744073709551616 := ⟨_, rfl⟩
    rw [← hhi] at h1 ⊢
    obtain ⟨lo, hlo⟩ : ∃ lo, lo = p % 18446744073709551616 := ⟨_, rfl⟩
    rw [← hlo]
    have Hin := Lib.hid hin
    have h1' : (0 : Int) < (hi : Int) := by omega
    clear hin hm hhi hlo hbig
    go_wp2
    go_ret2
    exact ⟨⟨0, by rw [Hin.out]; rfl, fun h => by have := Hin.out; rw [decide_eq_false_iff_not] at this; exact absurd h this⟩, rfl⟩
  · rw [show p / 18446744073709551616 = 0 by omega, show p % 18446744073709551616 = p by omega]
    have hp64 : p < 18446744073709551616 := by omega
    clear hbig
    rcases hm with ⟨hs, hm⟩ | ⟨hs, hm⟩
    · have hin : decide (In64 (a * b)) = decide ((p : Int) ≤ 9223372036854775808) := by
        rw [hm, decide_eq_decide]; unfold In64; omega
      have hval : In64 (a * b) → wrap64 (-(wrap64 (p : Int))) = a * b := by
        rw [hm]; unfold In64 wrap64; omega
      have H := Lib.hid (And.intro hin hval)
      clear hin hval hm
      go_wp2
      go_ret2
      exact ⟨⟨_, by rw [H.out.1]; rfl, H.out.2⟩, rfl⟩
    · have hin : decide (In64 (a * b)) = decide ((p : Int) < 9223372036854775808) := by
        rw [hm, decide_eq_decide]; unfold In64; omega
      have hval : In64 (a * b) → wrap64 (p : Int) = a * b := by
        rw [hm]; unfold In64 wrap64; omega
      have H := Lib.hid (And.intro hin hval)
      clear hin hval hm
      go_wp2
      go_ret2
      exact ⟨⟨_, by rw [H.out.1]; rfl, H.out.2⟩, rfl⟩
theorem tdiv_in {a b : Int} (ha : In64 a) (h0 : b ≠ 0) (h1 : b ≠ -1) : In64 (a.tdiv b) := by
  have hn : (a.tdiv b).natAbs = a.natAbs / b.natAbs := Int.natAbs_tdiv a b
  have h2 : a.natAbs / b.natAbs ≤ a.natAbs := Nat.div_le_self _ _
  have h3 : b.natAbs ≠ 0 := by omega
  by_cases hb1 : b = 1
  · subst hb1; rw [Int.tdiv_one]; exact ha
  · have h4 : 2 ≤ b.natAbs := by omega
    have h5 : a.natAbs / b.natAbs ≤ a.natAbs / 2 := Nat.div_le_div_left h4 (by omega)
    unfold In64 at ha ⊢
    omega
theorem chk_in {r : Int} (h : In64 r) : chk r = (r, 0) := by unfold chk; rw [if_pos h]
theorem chk_out {r : Int} (h : ¬ In64 r) : chk r = (0, 22) := by unfold chk; rw [if_neg h]
def nv (r : Int × Int) : Value := .tuple #[.int .i64 r.1, .int .i64 r.2]
theorem nv_in {r : Int} (h : wrap64 r = r) : Ending.returned (.tuple #[.int .i64 (wrap64 r), .int .i64 0]) = .returned (nv (r, 0)) := by rw [h]; rfl
theorem number_any (o : Nat) (ho : o ≤ 4) (a b : Int) (w : World) (ha : In64 a) (hb : In64 b) : Calls Try.prog 46 #[.string (opS o), .int .i64 a, .int .i64 b] w fun e w' => e = .returned (nv (work o a b)) ∧ w' = w := by
  match o, ho with
  | 0, _ =>
    show Calls _ _ #[.string ⟨#[43]⟩, _, _] _ fun e w' => e = .returned (nv (chk (a + b))) ∧ w' = w
    have hp := plus_ok ha hb
    by_cases h : In64 (a + b)
    · rw [chk_in h]
      rw [decide_eq_true h] at hp
      have HW := Lib.hid (wrap64_in' h)
      have H := Lib.hid (And.intro ha hb)
      clear ha hb h
      go_enter Try.func46, Try.ntmps46
      go_wp2
      go_ret2
      exact ⟨nv_in HW.out, rfl⟩
    · rw [chk_out h]
      rw [decide_eq_false h] at hp
      have H := Lib.hid (And.intro ha hb)
      clear ha hb h
      go_enter Try.func46, Try.ntmps46
      go_wp2
      go_ret2
      exact ⟨rfl, rfl⟩
  | 1, _ =>
    show Calls _ _ #[.string ⟨#[45]⟩, _, _] _ fun e w' => e = .returned (nv (chk (a - b))) ∧ w' = w
    have hp := minus_ok ha hb
    by_cases h : In64 (a - b)
    · rw [chk_in h]
      rw [decide_eq_true h] at hp
      have HW := Lib.hid (wrap64_in' h)
      have H := Lib.hid (And.intro ha hb)
      clear ha hb h
      go_enter Try.func46, Try.ntmps46
      go_wp2
      go_ret2
      exact ⟨nv_in HW.out, rfl⟩
    · rw [chk_out h]
      rw [decide_eq_false h] at hp
      have H := Lib.hid (And.intro ha hb)
      clear ha hb h
      go_enter Try.func46, Try.ntmps46
      go_wp2
      go_ret2
      exact ⟨rfl, rfl⟩
  | 2, _ =>
    show Calls _ _ #[.string ⟨#[42]⟩, _, _] _ fun e w' => e = .returned (nv (chk (a * b))) ∧ w' = w
    by_cases h : In64 (a * b)
    · rw [chk_in h]
      go_enter Try.func46, Try.ntmps46
      go_wp2_with (fail)
      go_at_call 64
      refine (times_any a b w ha hb).mono ?_
      rintro e w' ⟨⟨n, rfl, hn⟩, rfl⟩
      rw [decide_eq_true h]
      obtain rfl := hn h
      clear hn h
      go_wp2
      go_ret2
      exact ⟨rfl, rfl⟩
    · rw [chk_out h]
      go_enter Try.func46, Try.ntmps46
      go_wp2_with (fail)
      go_at_call 64
      refine (times_any a b w ha hb).mono ?_
      rintro e w' ⟨⟨n, rfl, hn⟩, rfl⟩
      rw [decide_eq_false h]
      clear hn h
      go_wp2
      go_ret2
      exact ⟨rfl, rfl⟩
  | 3, _ =>
    show Calls _ _ #[.string ⟨#[47]⟩, _, _] _ fun e w' => e = .returned (nv (if b = 0 then (0, 23) else chk (a.tdiv b))) ∧ w' = w
    by_cases h0 : b = 0
    · rw [if_pos h0]
      subst h0
      go_enter Try.func46, Try.ntmps46
      go_wp2
      go_ret2
      exact ⟨rfl, rfl⟩
    · rw [if_neg h0]
      by_cases h1 : b = -1
      · subst h1
        rw [Int.tdiv_neg, Int.tdiv_one]
        by_cases hm : a = -9223372036854775808
        · subst hm
          rw [chk_out (by unfold In64; omega)]
          go_enter Try.func46, Try.ntmps46
          go_wp2
          go_ret2
          exact ⟨rfl, rfl⟩
        · have hin : In64 (-a) := by unfold In64 at ha ⊢; omega
          rw [chk_in hin]
          have HW := Lib.hid (wrap64_in' hin)
          have hmb : (a != -9223372036854775808) = true := bne_iff_ne.2 hm
          clear hin hm ha hb h0
          go_enter Try.func46, Try.ntmps46
          go_wp2
          go_ret2
          exact ⟨nv_in HW.out, rfl⟩
      · have hin : In64 (a.tdiv b) := tdiv_in ha h0 h1
        rw [chk_in hin]
        have HW := Lib.hid (wrap64_in' hin)
        have c0 : (b == 0) = false := beq_eq_false_iff_ne.2 h0
        have c1 : (b == -1) = false := beq_eq_false_iff_ne.2 h1
        clear hin ha hb
        go_enter Try.func46, Try.ntmps46
        go_wp2
        go_ret2
        exact ⟨nv_in HW.out, rfl⟩
  | 4, _ =>
    show Calls _ _ #[.string ⟨#[37]⟩, _, _] _ fun e w' => e = .returned (nv (if b = 0 then (0, 23) else (a.tmod b, 0))) ∧ w' = w
    by_cases h0 : b = 0
    · rw [if_pos h0]
      subst h0
      go_enter Try.func46, Try.ntmps46
      go_wp2
      go_ret2
      exact ⟨rfl, rfl⟩
    · rw [if_neg h0]
      by_cases h1 : b = -1
      · subst h1
        rw [Int.tmod_neg, Int.tmod_one]
        go_enter Try.func46, Try.ntmps46
        go_wp2
        go_ret2
        exact ⟨rfl, rfl⟩
      · have c0 : (b == 0) = false := beq_eq_false_iff_ne.2 h0
        have c1 : (b == -1) = false := beq_eq_false_iff_ne.2 h1
        clear ha hb
        go_enter Try.func46, Try.ntmps46
        go_wp2
        go_ret2
        exact ⟨rfl, rfl⟩
end Go.Proofs.Yteedbhkofgkpoaa
