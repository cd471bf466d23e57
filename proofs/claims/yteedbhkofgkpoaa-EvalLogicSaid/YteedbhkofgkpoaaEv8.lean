/-
  The walk of eval.two: comparisons.
-/
import Derived.Test.YteedbhkofgkpoaaEv7
namespace Go.Proofs.Yteedbhkofgkpoaa
open Go.RowKit Ev
set_option maxRecDepth 100000
set_option linter.unusedVariables false
set_option linter.unusedSimpArgs false
set_option maxHeartbeats 400000 in
theorem two_7 (a : Vl) (y : X) (ih : WorkC y) (op : ByteArray) (n : Int) (g c : Nat) (o t : ByteArray) (m : Int) (q fs rs : Value) (w : World) (hq : NodeAt w g 4 o t m q) (hx : IsX w y o t m q) :
    Calls Try.prog 32 #[nd op ⟨#[61]⟩ n (.slice (some ⟨g, 0, none⟩) 2 c), vv a, fs, rs] w fun e w' => e = .returned (wv (two 7 a (workX y))) ∧ Below w.heap.size w w' := by
  obtain ⟨u, hu⟩ : ∃ u, u = (workX y).1 := ⟨_, rfl⟩
  obtain ⟨f, hf⟩ : ∃ f, f = (workX y).2 := ⟨_, rfl⟩
  have hxv : workX y = (u, f) := by rw [hu, hf]
  rw [hxv]
  have hih : ∀ W, IsX W y o t m q → Calls Try.prog 14 #[nd o t m q, fs, rs] W fun e w' => e = .returned (wv (u, f)) ∧ Below W.heap.size W w' := fun W h => by
    rw [← hxv]; exact ih o t m q fs rs W h
  have HT := Lib.hid (show two 7 a (u, f) = if f ≠ 0 then (nul, f) else if a.k = 0 ∨ u.k = 0 then (nul, 0) else (tr (cmpO 0 (one a u)), 0) by simp [two])
  clear hu hf ih hxv
  unfold nd vv
  go_enter Try.func32, Try.ntmps32
  go_wp2_with (fail)
  go_at_call 30
  refine (truth_any false _).mono ?_
  rintro e w1 ⟨rfl, hB1⟩
  have hN1 := (lay3_box w op ⟨#[61]⟩ n (.slice (some ⟨g, 0, none⟩) 2 c) a).below hB1
  have hA1 := (lay3_a w op ⟨#[61]⟩ n (.slice (some ⟨g, 0, none⟩) 2 c) a).below hB1
  have hR1 := (lay3_r w op ⟨#[61]⟩ n (.slice (some ⟨g, 0, none⟩) 2 c) a).below hB1
  have hb1 := (lay3_below w op ⟨#[61]⟩ n (.slice (some ⟨g, 0, none⟩) 2 c) a).trans (hB1.mono (by simp; omega))
  clear hB1
  obtain ⟨q0, q1, q2, q3⟩ := hq.below hb1
  have lg := World.block_lt_of_cell? w1 _ q0
  have hx1 := hx.below (hb1.alloc hb1.size (.cells #[.int .i64 2, .int .i64 0, .string ⟨#[]⟩] 38))
  clear hx hq
  unfold vv tr
  have lhN := hN1.lt
  obtain ⟨hNn0, hNn1, hNn2, hNn3⟩ := hN1.at
  have lhA := hA1.lt
  have hAc0 := hA1.c0
  have hAc1 := hA1.c1
  have hAc2 := hA1.c2
  have lhR := hR1.lt
  have hRc0 := hR1.c0
  have hRc1 := hR1.c1
  have hRc2 := hR1.c2
  have hRf0 := hR1.free 0
  have hRf1 := hR1.free 1
  have hRf2 := hR1.free 2
  go_wp2_with (fail)
  go_at_call 14
  refine (hih _ hx1).mono ?_
  rintro e w2 ⟨rfl, hB2⟩
  clear q0 q1 q2 q3 lg hx1 hih lhN hNn0 hNn1 hNn2 hNn3 lhA hAc0 hAc1 hAc2 lhR hRc0 hRc1 hRc2 hRf0 hRf1 hRf2
  have hN2 := (hN1.alloc _).below hB2
  have hA2 := (hA1.alloc _).below hB2
  have hR2 := (hR1.alloc _).below hB2
  have hE2 := (Lies.new w1 (tr false)).below hB2
  have hb2 := (hb1.alloc (Nat.le_trans hb1.size (by simp)) _).trans (hB2.mono (Nat.le_trans hb1.size (by simp)))
  clear hB2 hN1 hA1 hR1 hb1
  unfold wv vv
  have lhN := hN2.lt
  obtain ⟨hNn0, hNn1, hNn2, hNn3⟩ := hN2.at
  have lhA := hA2.lt
  have hAc0 := hA2.c0
  have hAc1 := hA2.c1
  have hAc2 := hA2.c2
  have lhR := hR2.lt
  have hRc0 := hR2.c0
  have hRc1 := hR2.c1
  have hRc2 := hR2.c2
  have hRf0 := hR2.free 0
  have hRf1 := hR2.free 1
  have hRf2 := hR2.free 2
  have lhE := hE2.lt
  have hEc0 := hE2.c0
  have hEc1 := hE2.c1
  have hEc2 := hE2.c2
  by_cases hf0 : f ≠ 0
  · have hfb : (f != 0) = true := bne_iff_ne.2 hf0
    go_wp2
    exact bodyPost_ret (v := wv (nul, f)) (two_res rfl rfl ((hR2.set3 nul).alloc _)) rfl ⟨by rw [HT.out, if_pos hf0], (set3 hb2 (by omega) _ _ _).alloc (by simpa using hb2.size) _⟩
  obtain rfl : f = 0 := by omega
  clear hf0
  by_cases hk : a.k = 0
  · have hkb : (a.k == 0) = true := beq_iff_eq.2 hk
    have HK := Lib.hid hk
    clear hk
    go_wp2_with (fail)
    go_at_call 31
    refine (null_any a _).mono ?_
    rintro e w3 ⟨rfl, hB3⟩
    clear lhN hNn0 hNn1 hNn2 hNn3 lhA hAc0 hAc1 hAc2 lhR hRc0 hRc1 hRc2 hRf0 hRf1 hRf2 lhE hEc0 hEc1 hEc2
    have hN3 := (hN2.alloc _).below hB3
    have hA3 := (hA2.alloc _).below hB3
    have hR3 := (hR2.alloc _).below hB3
    have hE3 := (hE2.alloc _).below hB3
    have hU3 := (Lies.new w2 u).below hB3
    have hb3 := (hb2.alloc (Nat.le_trans hb2.size (by simp)) _).trans (hB3.mono (Nat.le_trans hb2.size (by simp)))
    clear hB3 hN2 hA2 hR2 hE2 hb2
    have lhN := hN3.lt
    obtain ⟨hNn0, hNn1, hNn2, hNn3⟩ := hN3.at
    have lhA := hA3.lt
    have hAc0 := hA3.c0
    have hAc1 := hA3.c1
    have hAc2 := hA3.c2
    have lhR := hR3.lt
    have hRc0 := hR3.c0
    have hRc1 := hR3.c1
    have hRc2 := hR3.c2
    have hRf0 := hR3.free 0
    have hRf1 := hR3.free 1
    have hRf2 := hR3.free 2
    have lhE := hE3.lt
    have hEc0 := hE3.c0
    have hEc1 := hE3.c1
    have hEc2 := hE3.c2
    have lhU := hU3.lt
    have hUc0 := hU3.c0
    have hUc1 := hU3.c1
    have hUc2 := hU3.c2
    go_wp2
    exact bodyPost_ret (v := wv (nul, 0)) (two_res rfl rfl (hR3.set3 nul)) rfl ⟨by rw [HT.out, if_neg (by simp), if_pos (.inl HK.out)], set3 hb3 (by omega) _ _ _⟩
  have hkb : (a.k == 0) = false := beq_eq_false_iff_ne.2 hk
  have HK := Lib.hid hk
  clear hk
  go_wp2_with (fail)
  go_at_call 31
  refine (null_any a _).mono ?_
  rintro e w3 ⟨rfl, hB3⟩
  clear lhN hNn0 hNn1 hNn2 hNn3 lhA hAc0 hAc1 hAc2 lhR hRc0 hRc1 hRc2 hRf0 hRf1 hRf2 lhE hEc0 hEc1 hEc2
  have hN3 := (hN2.alloc _).below hB3
  have hA3 := (hA2.alloc _).below hB3
  have hR3 := (hR2.alloc _).below hB3
  have hE3 := (hE2.alloc _).below hB3
  have hU3 := (Lies.new w2 u).below hB3
  have hb3 := (hb2.alloc (Nat.le_trans hb2.size (by simp)) _).trans (hB3.mono (Nat.le_trans hb2.size (by simp)))
  clear hB3 hN2 hA2 hR2 hE2 hb2
  have lhN := hN3.lt
  obtain ⟨hNn0, hNn1, hNn2, hNn3⟩ := hN3.at
  have lhA := hA3.lt
  have hAc0 := hA3.c0
  have hAc1 := hA3.c1
  have hAc2 := hA3.c2
  have lhR := hR3.lt
  have hRc0 := hR3.c0
  have hRc1 := hR3.c1
  have hRc2 := hR3.c2
  have hRf0 := hR3.free 0
  have hRf1 := hR3.free 1
  have hRf2 := hR3.free 2
  have lhE := hE3.lt
  have hEc0 := hE3.c0
  have hEc1 := hE3.c1
  have hEc2 := hE3.c2
  have lhU := hU3.lt
  have hUc0 := hU3.c0
  have hUc1 := hU3.c1
  have hUc2 := hU3.c2
  by_cases hk : u.k = 0
  · have hkb2 : (u.k == 0) = true := beq_iff_eq.2 hk
    have HK2 := Lib.hid hk
    clear hk
    go_wp2_with (fail)
    go_at_call 31
    refine (null_any u _).mono ?_
    rintro e w4 ⟨rfl, hB4⟩
    clear lhN hNn0 hNn1 hNn2 hNn3 lhA hAc0 hAc1 hAc2 lhR hRc0 hRc1 hRc2 hRf0 hRf1 hRf2 lhE hEc0 hEc1 hEc2 lhU hUc0 hUc1 hUc2
    have hN4 := hN3.below hB4
    have hA4 := hA3.below hB4
    have hR4 := hR3.below hB4
    have hE4 := hE3.below hB4
    have hU4 := hU3.below hB4
    have hb4 := hb3.trans (hB4.mono (Nat.le_trans hb3.size (by simp)))
    clear hB4 hN3 hA3 hR3 hE3 hU3 hb3
    have lhN := hN4.lt
    obtain ⟨hNn0, hNn1, hNn2, hNn3⟩ := hN4.at
    have lhA := hA4.lt
    have hAc0 := hA4.c0
    have hAc1 := hA4.c1
    have hAc2 := hA4.c2
    have lhR := hR4.lt
    have hRc0 := hR4.c0
    have hRc1 := hR4.c1
    have hRc2 := hR4.c2
    have hRf0 := hR4.free 0
    have hRf1 := hR4.free 1
    have hRf2 := hR4.free 2
    have lhE := hE4.lt
    have hEc0 := hE4.c0
    have hEc1 := hE4.c1
    have hEc2 := hE4.c2
    have lhU := hU4.lt
    have hUc0 := hU4.c0
    have hUc1 := hU4.c1
    have hUc2 := hU4.c2
    go_wp2
    exact bodyPost_ret (v := wv (nul, 0)) (two_res rfl rfl (hR4.set3 nul)) rfl ⟨by rw [HT.out, if_neg (by simp), if_pos (.inr HK2.out)], set3 hb4 (by omega) _ _ _⟩
  have hkb2 : (u.k == 0) = false := beq_eq_false_iff_ne.2 hk
  have HK2 := Lib.hid hk
  clear hk
  go_wp2_with (fail)
  go_at_call 31
  refine (null_any u _).mono ?_
  rintro e w4 ⟨rfl, hB4⟩
  clear lhN hNn0 hNn1 hNn2 hNn3 lhA hAc0 hAc1 hAc2 lhR hRc0 hRc1 hRc2 hRf0 hRf1 hRf2 lhE hEc0 hEc1 hEc2 lhU hUc0 hUc1 hUc2
  have hN4 := hN3.below hB4
  have hA4 := hA3.below hB4
  have hR4 := hR3.below hB4
  have hE4 := hE3.below hB4
  have hU4 := hU3.below hB4
  have hb4 := hb3.trans (hB4.mono (Nat.le_trans hb3.size (by simp)))
  clear hB4 hN3 hA3 hR3 hE3 hU3 hb3
  have lhN := hN4.lt
  obtain ⟨hNn0, hNn1, hNn2, hNn3⟩ := hN4.at
  have lhA := hA4.lt
  have hAc0 := hA4.c0
  have hAc1 := hA4.c1
  have hAc2 := hA4.c2
  have lhR := hR4.lt
  have hRc0 := hR4.c0
  have hRc1 := hR4.c1
  have hRc2 := hR4.c2
  have hRf0 := hR4.free 0
  have hRf1 := hR4.free 1
  have hRf2 := hR4.free 2
  have lhE := hE4.lt
  have hEc0 := hE4.c0
  have hEc1 := hE4.c1
  have hEc2 := hE4.c2
  have lhU := hU4.lt
  have hUc0 := hU4.c0
  have hUc1 := hU4.c1
  have hUc2 := hU4.c2
  have hno : ¬ (a.k = 0 ∨ u.k = 0) := fun h => h.elim HK.out HK2.out
  have HNO := Lib.hid hno
  clear hno
  obtain ⟨b, hb⟩ : ∃ b, b = cmpO 0 (one a u) := ⟨_, rfl⟩
  have hcmp := compared_any 0 (by omega) a u
  rw [← hb] at hcmp
  have HX := Lib.hid hb
  clear hb
  go_wp2_with (fail)
  go_at_call 45
  refine (hcmp _).mono ?_
  rintro e w5 ⟨rfl, hB5⟩
  clear lhN hNn0 hNn1 hNn2 hNn3 lhA hAc0 hAc1 hAc2 lhR hRc0 hRc1 hRc2 hRf0 hRf1 hRf2 lhE hEc0 hEc1 hEc2 lhU hUc0 hUc1 hUc2
  have hN5 := hN4.below hB5
  have hA5 := hA4.below hB5
  have hR5 := hR4.below hB5
  have hE5 := hE4.below hB5
  have hU5 := hU4.below hB5
  have hb5 := hb4.trans (hB5.mono (Nat.le_trans hb4.size (by simp)))
  clear hB5 hN4 hA4 hR4 hE4 hU4 hb4
  have lhN := hN5.lt
  obtain ⟨hNn0, hNn1, hNn2, hNn3⟩ := hN5.at
  have lhA := hA5.lt
  have hAc0 := hA5.c0
  have hAc1 := hA5.c1
  have hAc2 := hA5.c2
  have lhR := hR5.lt
  have hRc0 := hR5.c0
  have hRc1 := hR5.c1
  have hRc2 := hR5.c2
  have hRf0 := hR5.free 0
  have hRf1 := hR5.free 1
  have hRf2 := hR5.free 2
  have lhE := hE5.lt
  have hEc0 := hE5.c0
  have hEc1 := hE5.c1
  have hEc2 := hE5.c2
  have lhU := hU5.lt
  have hUc0 := hU5.c0
  have hUc1 := hU5.c1
  have hUc2 := hU5.c2
  obtain ⟨x, hx⟩ : ∃ x, x = tr b := ⟨_, rfl⟩
  have htr := truth_any b
  rw [← hx] at htr
  have HY := Lib.hid hx
  clear hx
  go_wp2_with (fail)
  go_at_call 30
  refine (htr _).mono ?_
  rintro e w6 ⟨rfl, hB6⟩
  clear lhN hNn0 hNn1 hNn2 hNn3 lhA hAc0 hAc1 hAc2 lhR hRc0 hRc1 hRc2 hRf0 hRf1 hRf2 lhE hEc0 hEc1 hEc2 lhU hUc0 hUc1 hUc2
  have hN6 := hN5.below hB6
  have hA6 := hA5.below hB6
  have hR6 := hR5.below hB6
  have hE6 := hE5.below hB6
  have hU6 := hU5.below hB6
  have hb6 := hb5.trans (hB6.mono (Nat.le_trans hb5.size (by simp)))
  clear hB6 hN5 hA5 hR5 hE5 hU5 hb5
  unfold vv
  have lhN := hN6.lt
  obtain ⟨hNn0, hNn1, hNn2, hNn3⟩ := hN6.at
  have lhA := hA6.lt
  have hAc0 := hA6.c0
  have hAc1 := hA6.c1
  have hAc2 := hA6.c2
  have lhR := hR6.lt
  have hRc0 := hR6.c0
  have hRc1 := hR6.c1
  have hRc2 := hR6.c2
  have hRf0 := hR6.free 0
  have hRf1 := hR6.free 1
  have hRf2 := hR6.free 2
  have lhE := hE6.lt
  have hEc0 := hE6.c0
  have hEc1 := hE6.c1
  have hEc2 := hE6.c2
  have lhU := hU6.lt
  have hUc0 := hU6.c0
  have hUc1 := hU6.c1
  have hUc2 := hU6.c2
  go_wp2
  exact bodyPost_ret (v := wv (x, 0)) (two_res rfl rfl (hR6.set3 x)) rfl ⟨by rw [HT.out, if_neg (by simp), if_neg HNO.out, ← HX.out, ← HY.out], set3 hb6 (by omega) _ _ _⟩
set_option maxHeartbeats 400000 in
theorem two_8 (a : Vl) (y : X) (ih : WorkC y) (op : ByteArray) (n : Int) (g c : Nat) (o t : ByteArray) (m : Int) (q fs rs : Value) (w : World) (hq : NodeAt w g 4 o t m q) (hx : IsX w y o t m q) :
    Calls Try.prog 32 #[nd op ⟨#[60, 62]⟩ n (.slice (some ⟨g, 0, none⟩) 2 c), vv a, fs, rs] w fun e w' => e = .returned (wv (two 8 a (workX y))) ∧ Below w.heap.size w w' := by
  obtain ⟨u, hu⟩ : ∃ u, u = (workX y).1 := ⟨_, rfl⟩
  obtain ⟨f, hf⟩ : ∃ f, f = (workX y).2 := ⟨_, rfl⟩
  have hxv : workX y = (u, f) := by rw [hu, hf]
  rw [hxv]
  have hih : ∀ W, IsX W y o t m q → Calls Try.prog 14 #[nd o t m q, fs, rs] W fun e w' => e = .returned (wv (u, f)) ∧ Below W.heap.size W w' := fun W h => by
    rw [← hxv]; exact ih o t m q fs rs W h
  have HT := Lib.hid (show two 8 a (u, f) = if f ≠ 0 then (nul, f) else if a.k = 0 ∨ u.k = 0 then (nul, 0) else (tr (cmpO 1 (one a u)), 0) by simp [two])
  clear hu hf ih hxv
  unfold nd vv
  go_enter Try.func32, Try.ntmps32
  go_wp2_with (fail)
  go_at_call 30
  refine (truth_any false _).mono ?_
  rintro e w1 ⟨rfl, hB1⟩
  have hN1 := (lay3_box w op ⟨#[60, 62]⟩ n (.slice (some ⟨g, 0, none⟩) 2 c) a).below hB1
  have hA1 := (lay3_a w op ⟨#[60, 62]⟩ n (.slice (some ⟨g, 0, none⟩) 2 c) a).below hB1
  have hR1 := (lay3_r w op ⟨#[60, 62]⟩ n (.slice (some ⟨g, 0, none⟩) 2 c) a).below hB1
  have hb1 := (lay3_below w op ⟨#[60, 62]⟩ n (.slice (some ⟨g, 0, none⟩) 2 c) a).trans (hB1.mono (by simp; omega))
  clear hB1
  obtain ⟨q0, q1, q2, q3⟩ := hq.below hb1
  have lg := World.block_lt_of_cell? w1 _ q0
  have hx1 := hx.below (hb1.alloc hb1.size (.cells #[.int .i64 2, .int .i64 0, .string ⟨#[]⟩] 38))
  clear hx hq
  unfold vv tr
  have lhN := hN1.lt
  obtain ⟨hNn0, hNn1, hNn2, hNn3⟩ := hN1.at
  have lhA := hA1.lt
  have hAc0 := hA1.c0
  have hAc1 := hA1.c1
  have hAc2 := hA1.c2
  have lhR := hR1.lt
  have hRc0 := hR1.c0
  have hRc1 := hR1.c1
  have hRc2 := hR1.c2
  have hRf0 := hR1.free 0
  have hRf1 := hR1.free 1
  have hRf2 := hR1.free 2
  go_wp2_with (fail)
  go_at_call 14
  refine (hih _ hx1).mono ?_
  rintro e w2 ⟨rfl, hB2⟩
  clear q0 q1 q2 q3 lg hx1 hih lhN hNn0 hNn1 hNn2 hNn3 lhA hAc0 hAc1 hAc2 lhR hRc0 hRc1 hRc2 hRf0 hRf1 hRf2
  have hN2 := (hN1.alloc _).below hB2
  have hA2 := (hA1.alloc _).below hB2
  have hR2 := (hR1.alloc _).below hB2
  have hE2 := (Lies.new w1 (tr false)).below hB2
  have hb2 := (hb1.alloc (Nat.le_trans hb1.size (by simp)) _).trans (hB2.mono (Nat.le_trans hb1.size (by simp)))
  clear hB2 hN1 hA1 hR1 hb1
  unfold wv vv
  have lhN := hN2.lt
  obtain ⟨hNn0, hNn1, hNn2, hNn3⟩ := hN2.at
  have lhA := hA2.lt
  have hAc0 := hA2.c0
  have hAc1 := hA2.c1
  have hAc2 := hA2.c2
  have lhR := hR2.lt
  have hRc0 := hR2.c0
  have hRc1 := hR2.c1
  have hRc2 := hR2.c2
  have hRf0 := hR2.free 0
  have hRf1 := hR2.free 1
  have hRf2 := hR2.free 2
  have lhE := hE2.lt
  have hEc0 := hE2.c0
  have hEc1 := hE2.c1
  have hEc2 := hE2.c2
  by_cases hf0 : f ≠ 0
  · have hfb : (f != 0) = true := bne_iff_ne.2 hf0
    go_wp2
    exact bodyPost_ret (v := wv (nul, f)) (two_res rfl rfl ((hR2.set3 nul).alloc _)) rfl ⟨by rw [HT.out, if_pos hf0], (set3 hb2 (by omega) _ _ _).alloc (by simpa using hb2.size) _⟩
  obtain rfl : f = 0 := by omega
  clear hf0
  by_cases hk : a.k = 0
  · have hkb : (a.k == 0) = true := beq_iff_eq.2 hk
    have HK := Lib.hid hk
    clear hk
    go_wp2_with (fail)
    go_at_call 31
    refine (null_any a _).mono ?_
    rintro e w3 ⟨rfl, hB3⟩
    clear lhN hNn0 hNn1 hNn2 hNn3 lhA hAc0 hAc1 hAc2 lhR hRc0 hRc1 hRc2 hRf0 hRf1 hRf2 lhE hEc0 hEc1 hEc2
    have hN3 := (hN2.alloc _).below hB3
    have hA3 := (hA2.alloc _).below hB3
    have hR3 := (hR2.alloc _).below hB3
    have hE3 := (hE2.alloc _).below hB3
    have hU3 := (Lies.new w2 u).below hB3
    have hb3 := (hb2.alloc (Nat.le_trans hb2.size (by simp)) _).trans (hB3.mono (Nat.le_trans hb2.size (by simp)))
    clear hB3 hN2 hA2 hR2 hE2 hb2
    have lhN := hN3.lt
    obtain ⟨hNn0, hNn1, hNn2, hNn3⟩ := hN3.at
    have lhA := hA3.lt
    have hAc0 := hA3.c0
    have hAc1 := hA3.c1
    have hAc2 := hA3.c2
    have lhR := hR3.lt
    have hRc0 := hR3.c0
    have hRc1 := hR3.c1
    have hRc2 := hR3.c2
    have hRf0 := hR3.free 0
    have hRf1 := hR3.free 1
    have hRf2 := hR3.free 2
    have lhE := hE3.lt
    have hEc0 := hE3.c0
    have hEc1 := hE3.c1
    have hEc2 := hE3.c2
    have lhU := hU3.lt
    have hUc0 := hU3.c0
    have hUc1 := hU3.c1
    have hUc2 := hU3.c2
    go_wp2
    exact bodyPost_ret (v := wv (nul, 0)) (two_res rfl rfl (hR3.set3 nul)) rfl ⟨by rw [HT.out, if_neg (by simp), if_pos (.inl HK.out)], set3 hb3 (by omega) _ _ _⟩
  have hkb : (a.k == 0) = false := beq_eq_false_iff_ne.2 hk
  have HK := Lib.hid hk
  clear hk
  go_wp2_with (fail)
  go_at_call 31
  refine (null_any a _).mono ?_
  rintro e w3 ⟨rfl, hB3⟩
  clear lhN hNn0 hNn1 hNn2 hNn3 lhA hAc0 hAc1 hAc2 lhR hRc0 hRc1 hRc2 hRf0 hRf1 hRf2 lhE hEc0 hEc1 hEc2
  have hN3 := (hN2.alloc _).below hB3
  have hA3 := (hA2.alloc _).below hB3
  have hR3 := (hR2.alloc _).below hB3
  have hE3 := (hE2.alloc _).below hB3
  have hU3 := (Lies.new w2 u).below hB3
  have hb3 := (hb2.alloc (Nat.le_trans hb2.size (by simp)) _).trans (hB3.mono (Nat.le_trans hb2.size (by simp)))
  clear hB3 hN2 hA2 hR2 hE2 hb2
  have lhN := hN3.lt
  obtain ⟨hNn0, hNn1, hNn2, hNn3⟩ := hN3.at
  have lhA := hA3.lt
  have hAc0 := hA3.c0
  have hAc1 := hA3.c1
  have hAc2 := hA3.c2
  have lhR := hR3.lt
  have hRc0 := hR3.c0
  have hRc1 := hR3.c1
  have hRc2 := hR3.c2
  have hRf0 := hR3.free 0
  have hRf1 := hR3.free 1
  have hRf2 := hR3.free 2
  have lhE := hE3.lt
  have hEc0 := hE3.c0
  have hEc1 := hE3.c1
  have hEc2 := hE3.c2
  have lhU := hU3.lt
  have hUc0 := hU3.c0
  have hUc1 := hU3.c1
  have hUc2 := hU3.c2
  by_cases hk : u.k = 0
  · have hkb2 : (u.k == 0) = true := beq_iff_eq.2 hk
    have HK2 := Lib.hid hk
    clear hk
    go_wp2_with (fail)
    go_at_call 31
    refine (null_any u _).mono ?_
    rintro e w4 ⟨rfl, hB4⟩
    clear lhN hNn0 hNn1 hNn2 hNn3 lhA hAc0 hAc1 hAc2 lhR hRc0 hRc1 hRc2 hRf0 hRf1 hRf2 lhE hEc0 hEc1 hEc2 lhU hUc0 hUc1 hUc2
    have hN4 := hN3.below hB4
    have hA4 := hA3.below hB4
    have hR4 := hR3.below hB4
    have hE4 := hE3.below hB4
    have hU4 := hU3.below hB4
    have hb4 := hb3.trans (hB4.mono (Nat.le_trans hb3.size (by simp)))
    clear hB4 hN3 hA3 hR3 hE3 hU3 hb3
    have lhN := hN4.lt
    obtain ⟨hNn0, hNn1, hNn2, hNn3⟩ := hN4.at
    have lhA := hA4.lt
    have hAc0 := hA4.c0
    have hAc1 := hA4.c1
    have hAc2 := hA4.c2
    have lhR := hR4.lt
    have hRc0 := hR4.c0
    have hRc1 := hR4.c1
    have hRc2 := hR4.c2
    have hRf0 := hR4.free 0
    have hRf1 := hR4.free 1
    have hRf2 := hR4.free 2
    have lhE := hE4.lt
    have hEc0 := hE4.c0
    have hEc1 := hE4.c1
    have hEc2 := hE4.c2
    have lhU := hU4.lt
    have hUc0 := hU4.c0
    have hUc1 := hU4.c1
    have hUc2 := hU4.c2
    go_wp2
    exact bodyPost_ret (v := wv (nul, 0)) (two_res rfl rfl (hR4.set3 nul)) rfl ⟨by rw [HT.out, if_neg (by simp), if_pos (.inr HK2.out)], set3 hb4 (by omega) _ _ _⟩
  have hkb2 : (u.k == 0) = false := beq_eq_false_iff_ne.2 hk
  have HK2 := Lib.hid hk
  clear hk
  go_wp2_with (fail)
  go_at_call 31
  refine (null_any u _).mono ?_
  rintro e w4 ⟨rfl, hB4⟩
  clear lhN hNn0 hNn1 hNn2 hNn3 lhA hAc0 hAc1 hAc2 lhR hRc0 hRc1 hRc2 hRf0 hRf1 hRf2 lhE hEc0 hEc1 hEc2 lhU hUc0 hUc1 hUc2
  have hN4 := hN3.below hB4
  have hA4 := hA3.below hB4
  have hR4 := hR3.below hB4
  have hE4 := hE3.below hB4
  have hU4 := hU3.below hB4
  have hb4 := hb3.trans (hB4.mono (Nat.le_trans hb3.size (by simp)))
  clear hB4 hN3 hA3 hR3 hE3 hU3 hb3
  have lhN := hN4.lt
  obtain ⟨hNn0, hNn1, hNn2, hNn3⟩ := hN4.at
  have lhA := hA4.lt
  have hAc0 := hA4.c0
  have hAc1 := hA4.c1
  have hAc2 := hA4.c2
  have lhR := hR4.lt
  have hRc0 := hR4.c0
  have hRc1 := hR4.c1
  have hRc2 := hR4.c2
  have hRf0 := hR4.free 0
  have hRf1 := hR4.free 1
  have hRf2 := hR4.free 2
  have lhE := hE4.lt
  have hEc0 := hE4.c0
  have hEc1 := hE4.c1
  have hEc2 := hE4.c2
  have lhU := hU4.lt
  have hUc0 := hU4.c0
  have hUc1 := hU4.c1
  have hUc2 := hU4.c2
  have hno : ¬ (a.k = 0 ∨ u.k = 0) := fun h => h.elim HK.out HK2.out
  have HNO := Lib.hid hno
  clear hno
  obtain ⟨b, hb⟩ : ∃ b, b = cmpO 1 (one a u) := ⟨_, rfl⟩
  have hcmp := compared_any 1 (by omega) a u
  rw [← hb] at hcmp
  have HX := Lib.hid hb
  clear hb
  go_wp2_with (fail)
  go_at_call 45
  refine (hcmp _).mono ?_
  rintro e w5 ⟨rfl, hB5⟩
  clear lhN hNn0 hNn1 hNn2 hNn3 lhA hAc0 hAc1 hAc2 lhR hRc0 hRc1 hRc2 hRf0 hRf1 hRf2 lhE hEc0 hEc1 hEc2 lhU hUc0 hUc1 hUc2
  have hN5 := hN4.below hB5
  have hA5 := hA4.below hB5
  have hR5 := hR4.below hB5
  have hE5 := hE4.below hB5
  have hU5 := hU4.below hB5
  have hb5 := hb4.trans (hB5.mono (Nat.le_trans hb4.size (by simp)))
  clear hB5 hN4 hA4 hR4 hE4 hU4 hb4
  have lhN := hN5.lt
  obtain ⟨hNn0, hNn1, hNn2, hNn3⟩ := hN5.at
  have lhA := hA5.lt
  have hAc0 := hA5.c0
  have hAc1 := hA5.c1
  have hAc2 := hA5.c2
  have lhR := hR5.lt
  have hRc0 := hR5.c0
  have hRc1 := hR5.c1
  have hRc2 := hR5.c2
  have hRf0 := hR5.free 0
  have hRf1 := hR5.free 1
  have hRf2 := hR5.free 2
  have lhE := hE5.lt
  have hEc0 := hE5.c0
  have hEc1 := hE5.c1
  have hEc2 := hE5.c2
  have lhU := hU5.lt
  have hUc0 := hU5.c0
  have hUc1 := hU5.c1
  have hUc2 := hU5.c2
  obtain ⟨x, hx⟩ : ∃ x, x = tr b := ⟨_, rfl⟩
  have htr := truth_any b
  rw [← hx] at htr
  have HY := Lib.hid hx
  clear hx
  go_wp2_with (fail)
  go_at_call 30
  refine (htr _).mono ?_
  rintro e w6 ⟨rfl, hB6⟩
  clear lhN hNn0 hNn1 hNn2 hNn3 lhA hAc0 hAc1 hAc2 lhR hRc0 hRc1 hRc2 hRf0 hRf1 hRf2 lhE hEc0 hEc1 hEc2 lhU hUc0 hUc1 hUc2
  have hN6 := hN5.below hB6
  have hA6 := hA5.below hB6
  have hR6 := hR5.below hB6
  have hE6 := hE5.below hB6
  have hU6 := hU5.below hB6
  have hb6 := hb5.trans (hB6.mono (Nat.le_trans hb5.size (by simp)))
  clear hB6 hN5 hA5 hR5 hE5 hU5 hb5
  unfold vv
  have lhN := hN6.lt
  obtain ⟨hNn0, hNn1, hNn2, hNn3⟩ := hN6.at
  have lhA := hA6.lt
  have hAc0 := hA6.c0
  have hAc1 := hA6.c1
  have hAc2 := hA6.c2
  have lhR := hR6.lt
  have hRc0 := hR6.c0
  have hRc1 := hR6.c1
  have hRc2 := hR6.c2
  have hRf0 := hR6.free 0
  have hRf1 := hR6.free 1
  have hRf2 := hR6.free 2
  have lhE := hE6.lt
  have hEc0 := hE6.c0
  have hEc1 := hE6.c1
  have hEc2 := hE6.c2
  have lhU := hU6.lt
  have hUc0 := hU6.c0
  have hUc1 := hU6.c1
  have hUc2 := hU6.c2
  go_wp2
  exact bodyPost_ret (v := wv (x, 0)) (two_res rfl rfl (hR6.set3 x)) rfl ⟨by rw [HT.out, if_neg (by simp), if_neg HNO.out, ← HX.out, ← HY.out], set3 hb6 (by omega) _ _ _⟩
set_option maxHeartbeats 400000 in
theorem two_9 (a : Vl) (y : X) (ih : WorkC y) (op : ByteArray) (n : Int) (g c : Nat) (o t : ByteArray) (m : Int) (q fs rs : Value) (w : World) (hq : NodeAt w g 4 o t m q) (hx : IsX w y o t m q) :
    Calls Try.prog 32 #[nd op ⟨#[60]⟩ n (.slice (some ⟨g, 0, none⟩) 2 c), vv a, fs, rs] w fun e w' => e = .returned (wv (two 9 a (workX y))) ∧ Below w.heap.size w w' := by
  obtain ⟨u, hu⟩ : ∃ u, u = (workX y).1 := ⟨_, rfl⟩
  obtain ⟨f, hf⟩ : ∃ f, f = (workX y).2 := ⟨_, rfl⟩
  have hxv : workX y = (u, f) := by rw [hu, hf]
  rw [hxv]
  have hih : ∀ W, IsX W y o t m q → Calls Try.prog 14 #[nd o t m q, fs, rs] W fun e w' => e = .returned (wv (u, f)) ∧ Below W.heap.size W w' := fun W h => by
    rw [← hxv]; exact ih o t m q fs rs W h
  have HT := Lib.hid (show two 9 a (u, f) = if f ≠ 0 then (nul, f) else if a.k = 0 ∨ u.k = 0 then (nul, 0) else (tr (cmpO 2 (one a u)), 0) by simp [two])
  clear hu hf ih hxv
  unfold nd vv
  go_enter Try.func32, Try.ntmps32
  go_wp2_with (fail)
  go_at_call 30
  refine (truth_any false _).mono ?_
  rintro e w1 ⟨rfl, hB1⟩
  have hN1 := (lay3_box w op ⟨#[60]⟩ n (.slice (some ⟨g, 0, none⟩) 2 c) a).below hB1
  have hA1 := (lay3_a w op ⟨#[60]⟩ n (.slice (some ⟨g, 0, none⟩) 2 c) a).below hB1
  have hR1 := (lay3_r w op ⟨#[60]⟩ n (.slice (some ⟨g, 0, none⟩) 2 c) a).below hB1
  have hb1 := (lay3_below w op ⟨#[60]⟩ n (.slice (some ⟨g, 0, none⟩) 2 c) a).trans (hB1.mono (by simp; omega))
  clear hB1
  obtain ⟨q0, q1, q2, q3⟩ := hq.below hb1
  have lg := World.block_lt_of_cell? w1 _ q0
  have hx1 := hx.below (hb1.alloc hb1.size (.cells #[.int .i64 2, .int .i64 0, .string ⟨#[]⟩] 38))
  clear hx hq
  unfold vv tr
  have lhN := hN1.lt
  obtain ⟨hNn0, hNn1, hNn2, hNn3⟩ := hN1.at
  have lhA := hA1.lt
  have hAc0 := hA1.c0
  have hAc1 := hA1.c1
  have hAc2 := hA1.c2
  have lhR := hR1.lt
  have hRc0 := hR1.c0
  have hRc1 := hR1.c1
  have hRc2 := hR1.c2
  have hRf0 := hR1.free 0
  have hRf1 := hR1.free 1
  have hRf2 := hR1.free 2
  go_wp2_with (fail)
  go_at_call 14
  refine (hih _ hx1).mono ?_
  rintro e w2 ⟨rfl, hB2⟩
  clear q0 q1 q2 q3 lg hx1 hih lhN hNn0 hNn1 hNn2 hNn3 lhA hAc0 hAc1 hAc2 lhR hRc0 hRc1 hRc2 hRf0 hRf1 hRf2
  have hN2 := (hN1.alloc _).below hB2
  have hA2 := (hA1.alloc _).below hB2
  have hR2 := (hR1.alloc _).below hB2
  have hE2 := (Lies.new w1 (tr false)).below hB2
  have hb2 := (hb1.alloc (Nat.le_trans hb1.size (by simp)) _).trans (hB2.mono (Nat.le_trans hb1.size (by simp)))
  clear hB2 hN1 hA1 hR1 hb1
  unfold wv vv
  have lhN := hN2.lt
  obtain ⟨hNn0, hNn1, hNn2, hNn3⟩ := hN2.at
  have lhA := hA2.lt
  have hAc0 := hA2.c0
  have hAc1 := hA2.c1
  have hAc2 := hA2.c2
  have lhR := hR2.lt
  have hRc0 := hR2.c0
  have hRc1 := hR2.c1
  have hRc2 := hR2.c2
  have hRf0 := hR2.free 0
  have hRf1 := hR2.free 1
  have hRf2 := hR2.free 2
  have lhE := hE2.lt
  have hEc0 := hE2.c0
  have hEc1 := hE2.c1
  have hEc2 := hE2.c2
  by_cases hf0 : f ≠ 0
  · have hfb : (f != 0) = true := bne_iff_ne.2 hf0
    go_wp2
    exact bodyPost_ret (v := wv (nul, f)) (two_res rfl rfl ((hR2.set3 nul).alloc _)) rfl ⟨by rw [HT.out, if_pos hf0], (set3 hb2 (by omega) _ _ _).alloc (by simpa using hb2.size) _⟩
  obtain rfl : f = 0 := by omega
  clear hf0
  by_cases hk : a.k = 0
  · have hkb : (a.k == 0) = true := beq_iff_eq.2 hk
    have HK := Lib.hid hk
    clear hk
    go_wp2_with (fail)
    go_at_call 31
    refine (null_any a _).mono ?_
    rintro e w3 ⟨rfl, hB3⟩
    clear lhN hNn0 hNn1 hNn2 hNn3 lhA hAc0 hAc1 hAc2 lhR hRc0 hRc1 hRc2 hRf0 hRf1 hRf2 lhE hEc0 hEc1 hEc2
    have hN3 := (hN2.alloc _).below hB3
    have hA3 := (hA2.alloc _).below hB3
    have hR3 := (hR2.alloc _).below hB3
    have hE3 := (hE2.alloc _).below hB3
    have hU3 := (Lies.new w2 u).below hB3
    have hb3 := (hb2.alloc (Nat.le_trans hb2.size (by simp)) _).trans (hB3.mono (Nat.le_trans hb2.size (by simp)))
    clear hB3 hN2 hA2 hR2 hE2 hb2
    have lhN := hN3.lt
    obtain ⟨hNn0, hNn1, hNn2, hNn3⟩ := hN3.at
    have lhA := hA3.lt
    have hAc0 := hA3.c0
    have hAc1 := hA3.c1
    have hAc2 := hA3.c2
    have lhR := hR3.lt
    have hRc0 := hR3.c0
    have hRc1 := hR3.c1
    have hRc2 := hR3.c2
    have hRf0 := hR3.free 0
    have hRf1 := hR3.free 1
    have hRf2 := hR3.free 2
    have lhE := hE3.lt
    have hEc0 := hE3.c0
    have hEc1 := hE3.c1
    have hEc2 := hE3.c2
    have lhU := hU3.lt
    have hUc0 := hU3.c0
    have hUc1 := hU3.c1
    have hUc2 := hU3.c2
    go_wp2
    exact bodyPost_ret (v := wv (nul, 0)) (two_res rfl rfl (hR3.set3 nul)) rfl ⟨by rw [HT.out, if_neg (by simp), if_pos (.inl HK.out)], set3 hb3 (by omega) _ _ _⟩
  have hkb : (a.k == 0) = false := beq_eq_false_iff_ne.2 hk
  have HK := Lib.hid hk
  clear hk
  go_wp2_with (fail)
  go_at_call 31
  refine (null_any a _).mono ?_
  rintro e w3 ⟨rfl, hB3⟩
  clear lhN hNn0 hNn1 hNn2 hNn3 lhA hAc0 hAc1 hAc2 lhR hRc0 hRc1 hRc2 hRf0 hRf1 hRf2 lhE hEc0 hEc1 hEc2
  have hN3 := (hN2.alloc _).below hB3
  have hA3 := (hA2.alloc _).below hB3
  have hR3 := (hR2.alloc _).below hB3
  have hE3 := (hE2.alloc _).below hB3
  have hU3 := (Lies.new w2 u).below hB3
  have hb3 := (hb2.alloc (Nat.le_trans hb2.size (by simp)) _).trans (hB3.mono (Nat.le_trans hb2.size (by simp)))
  clear hB3 hN2 hA2 hR2 hE2 hb2
  have lhN := hN3.lt
  obtain ⟨hNn0, hNn1, hNn2, hNn3⟩ := hN3.at
  have lhA := hA3.lt
  have hAc0 := hA3.c0
  have hAc1 := hA3.c1
  have hAc2 := hA3.c2
  have lhR := hR3.lt
  have hRc0 := hR3.c0
  have hRc1 := hR3.c1
  have hRc2 := hR3.c2
  have hRf0 := hR3.free 0
  have hRf1 := hR3.free 1
  have hRf2 := hR3.free 2
  have lhE := hE3.lt
  have hEc0 := hE3.c0
  have hEc1 := hE3.c1
  have hEc2 := hE3.c2
  have lhU := hU3.lt
  have hUc0 := hU3.c0
  have hUc1 := hU3.c1
  have hUc2 := hU3.c2
  by_cases hk : u.k = 0
  · have hkb2 : (u.k == 0) = true := beq_iff_eq.2 hk
    have HK2 := Lib.hid hk
    clear hk
    go_wp2_with (fail)
    go_at_call 31
    refine (null_any u _).mono ?_
    rintro e w4 ⟨rfl, hB4⟩
    clear lhN hNn0 hNn1 hNn2 hNn3 lhA hAc0 hAc1 hAc2 lhR hRc0 hRc1 hRc2 hRf0 hRf1 hRf2 lhE hEc0 hEc1 hEc2 lhU hUc0 hUc1 hUc2
    have hN4 := hN3.below hB4
    have hA4 := hA3.below hB4
    have hR4 := hR3.below hB4
    have hE4 := hE3.below hB4
    have hU4 := hU3.below hB4
    have hb4 := hb3.trans (hB4.mono (Nat.le_trans hb3.size (by simp)))
    clear hB4 hN3 hA3 hR3 hE3 hU3 hb3
    have lhN := hN4.lt
    obtain ⟨hNn0, hNn1, hNn2, hNn3⟩ := hN4.at
    have lhA := hA4.lt
    have hAc0 := hA4.c0
    have hAc1 := hA4.c1
    have hAc2 := hA4.c2
    have lhR := hR4.lt
    have hRc0 := hR4.c0
    have hRc1 := hR4.c1
    have hRc2 := hR4.c2
    have hRf0 := hR4.free 0
    have hRf1 := hR4.free 1
    have hRf2 := hR4.free 2
    have lhE := hE4.lt
    have hEc0 := hE4.c0
    have hEc1 := hE4.c1
    have hEc2 := hE4.c2
    have lhU := hU4.lt
    have hUc0 := hU4.c0
    have hUc1 := hU4.c1
    have hUc2 := hU4.c2
    go_wp2
    exact bodyPost_ret (v := wv (nul, 0)) (two_res rfl rfl (hR4.set3 nul)) rfl ⟨by rw [HT.out, if_neg (by simp), if_pos (.inr HK2.out)], set3 hb4 (by omega) _ _ _⟩
  have hkb2 : (u.k == 0) = false := beq_eq_false_iff_ne.2 hk
  have HK2 := Lib.hid hk
  clear hk
  go_wp2_with (fail)
  go_at_call 31
  refine (null_any u _).mono ?_
  rintro e w4 ⟨rfl, hB4⟩
  clear lhN hNn0 hNn1 hNn2 hNn3 lhA hAc0 hAc1 hAc2 lhR hRc0 hRc1 hRc2 hRf0 hRf1 hRf2 lhE hEc0 hEc1 hEc2 lhU hUc0 hUc1 hUc2
  have hN4 := hN3.below hB4
  have hA4 := hA3.below hB4
  have hR4 := hR3.below hB4
  have hE4 := hE3.below hB4
  have hU4 := hU3.below hB4
  have hb4 := hb3.trans (hB4.mono (Nat.le_trans hb3.size (by simp)))
  clear hB4 hN3 hA3 hR3 hE3 hU3 hb3
  have lhN := hN4.lt
  obtain ⟨hNn0, hNn1, hNn2, hNn3⟩ := hN4.at
  have lhA := hA4.lt
  have hAc0 := hA4.c0
  have hAc1 := hA4.c1
  have hAc2 := hA4.c2
  have lhR := hR4.lt
  have hRc0 := hR4.c0
  have hRc1 := hR4.c1
  have hRc2 := hR4.c2
  have hRf0 := hR4.free 0
  have hRf1 := hR4.free 1
  have hRf2 := hR4.free 2
  have lhE := hE4.lt
  have hEc0 := hE4.c0
  have hEc1 := hE4.c1
  have hEc2 := hE4.c2
  have lhU := hU4.lt
  have hUc0 := hU4.c0
  have hUc1 := hU4.c1
  have hUc2 := hU4.c2
  have hno : ¬ (a.k = 0 ∨ u.k = 0) := fun h => h.elim HK.out HK2.out
  have HNO := Lib.hid hno
  clear hno
  obtain ⟨b, hb⟩ : ∃ b, b = cmpO 2 (one a u) := ⟨_, rfl⟩
  have hcmp := compared_any 2 (by omega) a u
  rw [← hb] at hcmp
  have HX := Lib.hid hb
  clear hb
  go_wp2_with (fail)
  go_at_call 45
  refine (hcmp _).mono ?_
  rintro e w5 ⟨rfl, hB5⟩
  clear lhN hNn0 hNn1 hNn2 hNn3 lhA hAc0 hAc1 hAc2 lhR hRc0 hRc1 hRc2 hRf0 hRf1 hRf2 lhE hEc0 hEc1 hEc2 lhU hUc0 hUc1 hUc2
  have hN5 := hN4.below hB5
  have hA5 := hA4.below hB5
  have hR5 := hR4.below hB5
  have hE5 := hE4.below hB5
  have hU5 := hU4.below hB5
  have hb5 := hb4.trans (hB5.mono (Nat.le_trans hb4.size (by simp)))
  clear hB5 hN4 hA4 hR4 hE4 hU4 hb4
  have lhN := hN5.lt
  obtain ⟨hNn0, hNn1, hNn2, hNn3⟩ := hN5.at
  have lhA := hA5.lt
  have hAc0 := hA5.c0
  have hAc1 := hA5.c1
  have hAc2 := hA5.c2
  have lhR := hR5.lt
  have hRc0 := hR5.c0
  have hRc1 := hR5.c1
  have hRc2 := hR5.c2
  have hRf0 := hR5.free 0
  have hRf1 := hR5.free 1
  have hRf2 := hR5.free 2
  have lhE := hE5.lt
  have hEc0 := hE5.c0
  have hEc1 := hE5.c1
  have hEc2 := hE5.c2
  have lhU := hU5.lt
  have hUc0 := hU5.c0
  have hUc1 := hU5.c1
  have hUc2 := hU5.c2
  obtain ⟨x, hx⟩ : ∃ x, x = tr b := ⟨_, rfl⟩
  have htr := truth_any b
  rw [← hx] at htr
  have HY := Lib.hid hx
  clear hx
  go_wp2_with (fail)
  go_at_call 30
  refine (htr _).mono ?_
  rintro e w6 ⟨rfl, hB6⟩
  clear lhN hNn0 hNn1 hNn2 hNn3 lhA hAc0 hAc1 hAc2 lhR hRc0 hRc1 hRc2 hRf0 hRf1 hRf2 lhE hEc0 hEc1 hEc2 lhU hUc0 hUc1 hUc2
  have hN6 := hN5.below hB6
  have hA6 := hA5.below hB6
  have hR6 := hR5.below hB6
  have hE6 := hE5.below hB6
  have hU6 := hU5.below hB6
  have hb6 := hb5.trans (hB6.mono (Nat.le_trans hb5.size (by simp)))
  clear hB6 hN5 hA5 hR5 hE5 hU5 hb5
  unfold vv
  have lhN := hN6.lt
  obtain ⟨hNn0, hNn1, hNn2, hNn3⟩ := hN6.at
  have lhA := hA6.lt
  have hAc0 := hA6.c0
  have hAc1 := hA6.c1
  have hAc2 := hA6.c2
  have lhR := hR6.lt
  have hRc0 := hR6.c0
  have hRc1 := hR6.c1
  have hRc2 := hR6.c2
  have hRf0 := hR6.free 0
  have hRf1 := hR6.free 1
  have hRf2 := hR6.free 2
  have lhE := hE6.lt
  have hEc0 := hE6.c0
  have hEc1 := hE6.c1
  have hEc2 := hE6.c2
  have lhU := hU6.lt
  have hUc0 := hU6.c0
  have hUc1 := hU6.c1
  have hUc2 := hU6.c2
  go_wp2
  exact bodyPost_ret (v := wv (x, 0)) (two_res rfl rfl (hR6.set3 x)) rfl ⟨by rw [HT.out, if_neg (by simp), if_neg HNO.out, ← HX.out, ← HY.out], set3 hb6 (by omega) _ _ _⟩
set_option maxHeartbeats 400000 in
theorem two_10 (a : Vl) (y : X) (ih : WorkC y) (op : ByteArray) (n : Int) (g c : Nat) (o t : ByteArray) (m : Int) (q fs rs : Value) (w : World) (hq : NodeAt w g 4 o t m q) (hx : IsX w y o t m q) :
    Calls Try.prog 32 #[nd op ⟨#[60, 61]⟩ n (.slice (some ⟨g, 0, none⟩) 2 c), vv a, fs, rs] w fun e w' => e = .returned (wv (two 10 a (workX y))) ∧ Below w.heap.size w w' := by
  obtain ⟨u, hu⟩ : ∃ u, u = (workX y).1 := ⟨_, rfl⟩
  obtain ⟨f, hf⟩ : ∃ f, f = (workX y).2 := ⟨_, rfl⟩
  have hxv : workX y = (u, f) := by rw [hu, hf]
  rw [hxv]
  have hih : ∀ W, IsX W y o t m q → Calls Try.prog 14 #[nd o t m q, fs, rs] W fun e w' => e = .returned (wv (u, f)) ∧ Below W.heap.size W w' := fun W h => by
    rw [← hxv]; exact ih o t m q fs rs W h
  have HT := Lib.hid (show two 10 a (u, f) = if f ≠ 0 then (nul, f) else if a.k = 0 ∨ u.k = 0 then (nul, 0) else (tr (cmpO 3 (one a u)), 0) by simp [two])
  clear hu hf ih hxv
  unfold nd vv
  go_enter Try.func32, Try.ntmps32
  go_wp2_with (fail)
  go_at_call 30
  refine (truth_any false _).mono ?_
  rintro e w1 ⟨rfl, hB1⟩
  have hN1 := (lay3_box w op ⟨#[60, 61]⟩ n (.slice (some ⟨g, 0, none⟩) 2 c) a).below hB1
  have hA1 := (lay3_a w op ⟨#[60, 61]⟩ n (.slice (some ⟨g, 0, none⟩) 2 c) a).below hB1
  have hR1 := (lay3_r w op ⟨#[60, 61]⟩ n (.slice (some ⟨g, 0, none⟩) 2 c) a).below hB1
  have hb1 := (lay3_below w op ⟨#[60, 61]⟩ n (.slice (some ⟨g, 0, none⟩) 2 c) a).trans (hB1.mono (by simp; omega))
  clear hB1
  obtain ⟨q0, q1, q2, q3⟩ := hq.below hb1
  have lg := World.block_lt_of_cell? w1 _ q0
  have hx1 := hx.below (hb1.alloc hb1.size (.cells #[.int .i64 2, .int .i64 0, .string ⟨#[]⟩] 38))
  clear hx hq
  unfold vv tr
  have lhN := hN1.lt
  obtain ⟨hNn0, hNn1, hNn2, hNn3⟩ := hN1.at
  have lhA := hA1.lt
  have hAc0 := hA1.c0
  have hAc1 := hA1.c1
  have hAc2 := hA1.c2
  have lhR := hR1.lt
  have hRc0 := hR1.c0
  have hRc1 := hR1.c1
  have hRc2 := hR1.c2
  have hRf0 := hR1.free 0
  have hRf1 := hR1.free 1
  have hRf2 := hR1.free 2
  go_wp2_with (fail)
  go_at_call 14
  refine (hih _ hx1).mono ?_
  rintro e w2 ⟨rfl, hB2⟩
  clear q0 q1 q2 q3 lg hx1 hih lhN hNn0 hNn1 hNn2 hNn3 lhA hAc0 hAc1 hAc2 lhR hRc0 hRc1 hRc2 hRf0 hRf1 hRf2
  have hN2 := (hN1.alloc _).below hB2
  have hA2 := (hA1.alloc _).below hB2
  have hR2 := (hR1.alloc _).below hB2
  have hE2 := (Lies.new w1 (tr false)).below hB2
  have hb2 := (hb1.alloc (Nat.le_trans hb1.size (by simp)) _).trans (hB2.mono (Nat.le_trans hb1.size (by simp)))
  clear hB2 hN1 hA1 hR1 hb1
  unfold wv vv
  have lhN := hN2.lt
  obtain ⟨hNn0, hNn1, hNn2, hNn3⟩ := hN2.at
  have lhA := hA2.lt
  have hAc0 := hA2.c0
  have hAc1 := hA2.c1
  have hAc2 := hA2.c2
  have lhR := hR2.lt
  have hRc0 := hR2.c0
  have hRc1 := hR2.c1
  have hRc2 := hR2.c2
  have hRf0 := hR2.free 0
  have hRf1 := hR2.free 1
  have hRf2 := hR2.free 2
  have lhE := hE2.lt
  have hEc0 := hE2.c0
  have hEc1 := hE2.c1
  have hEc2 := hE2.c2
  by_cases hf0 : f ≠ 0
  · have hfb : (f != 0) = true := bne_iff_ne.2 hf0
    go_wp2
    exact bodyPost_ret (v := wv (nul, f)) (two_res rfl rfl ((hR2.set3 nul).alloc _)) rfl ⟨by rw [HT.out, if_pos hf0], (set3 hb2 (by omega) _ _ _).alloc (by simpa using hb2.size) _⟩
  obtain rfl : f = 0 := by omega
  clear hf0
  by_cases hk : a.k = 0
  · have hkb : (a.k == 0) = true := beq_iff_eq.2 hk
    have HK := Lib.hid hk
    clear hk
    go_wp2_with (fail)
    go_at_call 31
    refine (null_any a _).mono ?_
    rintro e w3 ⟨rfl, hB3⟩
    clear lhN hNn0 hNn1 hNn2 hNn3 lhA hAc0 hAc1 hAc2 lhR hRc0 hRc1 hRc2 hRf0 hRf1 hRf2 lhE hEc0 hEc1 hEc2
    have hN3 := (hN2.alloc _).below hB3
    have hA3 := (hA2.alloc _).below hB3
    have hR3 := (hR2.alloc _).below hB3
    have hE3 := (hE2.alloc _).below hB3
    have hU3 := (Lies.new w2 u).below hB3
    have hb3 := (hb2.alloc (Nat.le_trans hb2.size (by simp)) _).trans (hB3.mono (Nat.le_trans hb2.size (by simp)))
    clear hB3 hN2 hA2 hR2 hE2 hb2
    have lhN := hN3.lt
    obtain ⟨hNn0, hNn1, hNn2, hNn3⟩ := hN3.at
    have lhA := hA3.lt
    have hAc0 := hA3.c0
    have hAc1 := hA3.c1
    have hAc2 := hA3.c2
    have lhR := hR3.lt
    have hRc0 := hR3.c0
    have hRc1 := hR3.c1
    have hRc2 := hR3.c2
    have hRf0 := hR3.free 0
    have hRf1 := hR3.free 1
    have hRf2 := hR3.free 2
    have lhE := hE3.lt
    have hEc0 := hE3.c0
    have hEc1 := hE3.c1
    have hEc2 := hE3.c2
    have lhU := hU3.lt
    have hUc0 := hU3.c0
    have hUc1 := hU3.c1
    have hUc2 := hU3.c2
    go_wp2
    exact bodyPost_ret (v := wv (nul, 0)) (two_res rfl rfl (hR3.set3 nul)) rfl ⟨by rw [HT.out, if_neg (by simp), if_pos (.inl HK.out)], set3 hb3 (by omega) _ _ _⟩
  have hkb : (a.k == 0) = false := beq_eq_false_iff_ne.2 hk
  have HK := Lib.hid hk
  clear hk
  go_wp2_with (fail)
  go_at_call 31
  refine (null_any a _).mono ?_
  rintro e w3 ⟨rfl, hB3⟩
  clear lhN hNn0 hNn1 hNn2 hNn3 lhA hAc0 hAc1 hAc2 lhR hRc0 hRc1 hRc2 hRf0 hRf1 hRf2 lhE hEc0 hEc1 hEc2
  have hN3 := (hN2.alloc _).below hB3
  have hA3 := (hA2.alloc _).below hB3
  have hR3 := (hR2.alloc _).below hB3
  have hE3 := (hE2.alloc _).below hB3
  have hU3 := (Lies.new w2 u).below hB3
  have hb3 := (hb2.alloc (Nat.le_trans hb2.size (by simp)) _).trans (hB3.mono (Nat.le_trans hb2.size (by simp)))
  clear hB3 hN2 hA2 hR2 hE2 hb2
  have lhN := hN3.lt
  obtain ⟨hNn0, hNn1, hNn2, hNn3⟩ := hN3.at
  have lhA := hA3.lt
  have hAc0 := hA3.c0
  have hAc1 := hA3.c1
  have hAc2 := hA3.c2
  have lhR := hR3.lt
  have hRc0 := hR3.c0
  have hRc1 := hR3.c1
  have hRc2 := hR3.c2
  have hRf0 := hR3.free 0
  have hRf1 := hR3.free 1
  have hRf2 := hR3.free 2
  have lhE := hE3.lt
  have hEc0 := hE3.c0
  have hEc1 := hE3.c1
  have hEc2 := hE3.c2
  have lhU := hU3.lt
  have hUc0 := hU3.c0
  have hUc1 := hU3.c1
  have hUc2 := hU3.c2
  by_cases hk : u.k = 0
  · have hkb2 : (u.k == 0) = true := beq_iff_eq.2 hk
    have HK2 := Lib.hid hk
    clear hk
    go_wp2_with (fail)
    go_at_call 31
    refine (null_any u _).mono ?_
    rintro e w4 ⟨rfl, hB4⟩
    clear lhN hNn0 hNn1 hNn2 hNn3 lhA hAc0 hAc1 hAc2 lhR hRc0 hRc1 hRc2 hRf0 hRf1 hRf2 lhE hEc0 hEc1 hEc2 lhU hUc0 hUc1 hUc2
    have hN4 := hN3.below hB4
    have hA4 := hA3.below hB4
    have hR4 := hR3.below hB4
    have hE4 := hE3.below hB4
    have hU4 := hU3.below hB4
    have hb4 := hb3.trans (hB4.mono (Nat.le_trans hb3.size (by simp)))
    clear hB4 hN3 hA3 hR3 hE3 hU3 hb3
    have lhN := hN4.lt
    obtain ⟨hNn0, hNn1, hNn2, hNn3⟩ := hN4.at
    have lhA := hA4.lt
    have hAc0 := hA4.c0
    have hAc1 := hA4.c1
    have hAc2 := hA4.c2
    have lhR := hR4.lt
    have hRc0 := hR4.c0
    have hRc1 := hR4.c1
    have hRc2 := hR4.c2
    have hRf0 := hR4.free 0
    have hRf1 := hR4.free 1
    have hRf2 := hR4.free 2
    have lhE := hE4.lt
    have hEc0 := hE4.c0
    have hEc1 := hE4.c1
    have hEc2 := hE4.c2
    have lhU := hU4.lt
    have hUc0 := hU4.c0
    have hUc1 := hU4.c1
    have hUc2 := hU4.c2
    go_wp2
    exact bodyPost_ret (v := wv (nul, 0)) (two_res rfl rfl (hR4.set3 nul)) rfl ⟨by rw [HT.out, if_neg (by simp), if_pos (.inr HK2.out)], set3 hb4 (by omega) _ _ _⟩
  have hkb2 : (u.k == 0) = false := beq_eq_false_iff_ne.2 hk
  have HK2 := Lib.hid hk
  clear hk
  go_wp2_with (fail)
  go_at_call 31
  refine (null_any u _).mono ?_
  rintro e w4 ⟨rfl, hB4⟩
  clear lhN hNn0 hNn1 hNn2 hNn3 lhA hAc0 hAc1 hAc2 lhR hRc0 hRc1 hRc2 hRf0 hRf1 hRf2 lhE hEc0 hEc1 hEc2 lhU hUc0 hUc1 hUc2
  have hN4 := hN3.below hB4
  have hA4 := hA3.below hB4
  have hR4 := hR3.below hB4
  have hE4 := hE3.below hB4
  have hU4 := hU3.below hB4
  have hb4 := hb3.trans (hB4.mono (Nat.le_trans hb3.size (by simp)))
  clear hB4 hN3 hA3 hR3 hE3 hU3 hb3
  have lhN := hN4.lt
  obtain ⟨hNn0, hNn1, hNn2, hNn3⟩ := hN4.at
  have lhA := hA4.lt
  have hAc0 := hA4.c0
  have hAc1 := hA4.c1
  have hAc2 := hA4.c2
  have lhR := hR4.lt
  have hRc0 := hR4.c0
  have hRc1 := hR4.c1
  have hRc2 := hR4.c2
  have hRf0 := hR4.free 0
  have hRf1 := hR4.free 1
  have hRf2 := hR4.free 2
  have lhE := hE4.lt
  have hEc0 := hE4.c0
  have hEc1 := hE4.c1
  have hEc2 := hE4.c2
  have lhU := hU4.lt
  have hUc0 := hU4.c0
  have hUc1 := hU4.c1
  have hUc2 := hU4.c2
  have hno : ¬ (a.k = 0 ∨ u.k = 0) := fun h => h.elim HK.out HK2.out
  have HNO := Lib.hid hno
  clear hno
  obtain ⟨b, hb⟩ : ∃ b, b = cmpO 3 (one a u) := ⟨_, rfl⟩
  have hcmp := compared_any 3 (by omega) a u
  rw [← hb] at hcmp
  have HX := Lib.hid hb
  clear hb
  go_wp2_with (fail)
  go_at_call 45
  refine (hcmp _).mono ?_
  rintro e w5 ⟨rfl, hB5⟩
  clear lhN hNn0 hNn1 hNn2 hNn3 lhA hAc0 hAc1 hAc2 lhR hRc0 hRc1 hRc2 hRf0 hRf1 hRf2 lhE hEc0 hEc1 hEc2 lhU hUc0 hUc1 hUc2
  have hN5 := hN4.below hB5
  have hA5 := hA4.below hB5
  have hR5 := hR4.below hB5
  have hE5 := hE4.below hB5
  have hU5 := hU4.below hB5
  have hb5 := hb4.trans (hB5.mono (Nat.le_trans hb4.size (by simp)))
  clear hB5 hN4 hA4 hR4 hE4 hU4 hb4
  have lhN := hN5.lt
  obtain ⟨hNn0, hNn1, hNn2, hNn3⟩ := hN5.at
  have lhA := hA5.lt
  have hAc0 := hA5.c0
  have hAc1 := hA5.c1
  have hAc2 := hA5.c2
  have lhR := hR5.lt
  have hRc0 := hR5.c0
  have hRc1 := hR5.c1
  have hRc2 := hR5.c2
  have hRf0 := hR5.free 0
  have hRf1 := hR5.free 1
  have hRf2 := hR5.free 2
  have lhE := hE5.lt
  have hEc0 := hE5.c0
  have hEc1 := hE5.c1
  have hEc2 := hE5.c2
  have lhU := hU5.lt
  have hUc0 := hU5.c0
  have hUc1 := hU5.c1
  have hUc2 := hU5.c2
  obtain ⟨x, hx⟩ : ∃ x, x = tr b := ⟨_, rfl⟩
  have htr := truth_any b
  rw [← hx] at htr
  have HY := Lib.hid hx
  clear hx
  go_wp2_with (fail)
  go_at_call 30
  refine (htr _).mono ?_
  rintro e w6 ⟨rfl, hB6⟩
  clear lhN hNn0 hNn1 hNn2 hNn3 lhA hAc0 hAc1 hAc2 lhR hRc0 hRc1 hRc2 hRf0 hRf1 hRf2 lhE hEc0 hEc1 hEc2 lhU hUc0 hUc1 hUc2
  have hN6 := hN5.below hB6
  have hA6 := hA5.below hB6
  have hR6 := hR5.below hB6
  have hE6 := hE5.below hB6
  have hU6 := hU5.below hB6
  have hb6 := hb5.trans (hB6.mono (Nat.le_trans hb5.size (by simp)))
  clear hB6 hN5 hA5 hR5 hE5 hU5 hb5
  unfold vv
  have lhN := hN6.lt
  obtain ⟨hNn0, hNn1, hNn2, hNn3⟩ := hN6.at
  have lhA := hA6.lt
  have hAc0 := hA6.c0
  have hAc1 := hA6.c1
  have hAc2 := hA6.c2
  have lhR := hR6.lt
  have hRc0 := hR6.c0
  have hRc1 := hR6.c1
  have hRc2 := hR6.c2
  have hRf0 := hR6.free 0
  have hRf1 := hR6.free 1
  have hRf2 := hR6.free 2
  have lhE := hE6.lt
  have hEc0 := hE6.c0
  have hEc1 := hE6.c1
  have hEc2 := hE6.c2
  have lhU := hU6.lt
  have hUc0 := hU6.c0
  have hUc1 := hU6.c1
  have hUc2 := hU6.c2
  go_wp2
  exact bodyPost_ret (v := wv (x, 0)) (two_res rfl rfl (hR6.set3 x)) rfl ⟨by rw [HT.out, if_neg (by simp), if_neg HNO.out, ← HX.out, ← HY.out], set3 hb6 (by omega) _ _ _⟩
set_option maxHeartbeats 400000 in
theorem two_11 (a : Vl) (y : X) (ih : WorkC y) (op : ByteArray) (n : Int) (g c : Nat) (o t : ByteArray) (m : Int) (q fs rs : Value) (w : World) (hq : NodeAt w g 4 o t m q) (hx : IsX w y o t m q) :
    Calls Try.prog 32 #[nd op ⟨#[62]⟩ n (.slice (some ⟨g, 0, none⟩) 2 c), vv a, fs, rs] w fun e w' => e = .returned (wv (two 11 a (workX y))) ∧ Below w.heap.size w w' := by
  obtain ⟨u, hu⟩ : ∃ u, u = (workX y).1 := ⟨_, rfl⟩
  obtain ⟨f, hf⟩ : ∃ f, f = (workX y).2 := ⟨_, rfl⟩
  have hxv : workX y = (u, f) := by rw [hu, hf]
  rw [hxv]
  have hih : ∀ W, IsX W y o t m q → Calls Try.prog 14 #[nd o t m q, fs, rs] W fun e w' => e = .returned (wv (u, f)) ∧ Below W.heap.size W w' := fun W h => by
    rw [← hxv]; exact ih o t m q fs rs W h
  have HT := Lib.hid (show two 11 a (u, f) = if f ≠ 0 then (nul, f) else if a.k = 0 ∨ u.k = 0 then (nul, 0) else (tr (cmpO 4 (one a u)), 0) by simp [two])
  clear hu hf ih hxv
  unfold nd vv
  go_enter Try.func32, Try.ntmps32
  go_wp2_with (fail)
  go_at_call 30
  refine (truth_any false _).mono ?_
  rintro e w1 ⟨rfl, hB1⟩
  have hN1 := (lay3_box w op ⟨#[62]⟩ n (.slice (some ⟨g, 0, none⟩) 2 c) a).below hB1
  have hA1 := (lay3_a w op ⟨#[62]⟩ n (.slice (some ⟨g, 0, none⟩) 2 c) a).below hB1
  have hR1 := (lay3_r w op ⟨#[62]⟩ n (.slice (some ⟨g, 0, none⟩) 2 c) a).below hB1
  have hb1 := (lay3_below w op ⟨#[62]⟩ n (.slice (some ⟨g, 0, none⟩) 2 c) a).trans (hB1.mono (by simp; omega))
  clear hB1
  obtain ⟨q0, q1, q2, q3⟩ := hq.below hb1
  have lg := World.block_lt_of_cell? w1 _ q0
  have hx1 := hx.below (hb1.alloc hb1.size (.cells #[.int .i64 2, .int .i64 0, .string ⟨#[]⟩] 38))
  clear hx hq
  unfold vv tr
  have lhN := hN1.lt
  obtain ⟨hNn0, hNn1, hNn2, hNn3⟩ := hN1.at
  have lhA := hA1.lt
  have hAc0 := hA1.c0
  have hAc1 := hA1.c1
  have hAc2 := hA1.c2
  have lhR := hR1.lt
  have hRc0 := hR1.c0
  have hRc1 := hR1.c1
  have hRc2 := hR1.c2
  have hRf0 := hR1.free 0
  have hRf1 := hR1.free 1
  have hRf2 := hR1.free 2
  go_wp2_with (fail)
  go_at_call 14
  refine (hih _ hx1).mono ?_
  rintro e w2 ⟨rfl, hB2⟩
  clear q0 q1 q2 q3 lg hx1 hih lhN hNn0 hNn1 hNn2 hNn3 lhA hAc0 hAc1 hAc2 lhR hRc0 hRc1 hRc2 hRf0 hRf1 hRf2
  have hN2 := (hN1.alloc _).below hB2
  have hA2 := (hA1.alloc _).below hB2
  have hR2 := (hR1.alloc _).below hB2
  have hE2 := (Lies.new w1 (tr false)).below hB2
  have hb2 := (hb1.alloc (Nat.le_trans hb1.size (by simp)) _).trans (hB2.mono (Nat.le_trans hb1.size (by simp)))
  clear hB2 hN1 hA1 hR1 hb1
  unfold wv vv
  have lhN := hN2.lt
  obtain ⟨hNn0, hNn1, hNn2, hNn3⟩ := hN2.at
  have lhA := hA2.lt
  have hAc0 := hA2.c0
  have hAc1 := hA2.c1
  have hAc2 := hA2.c2
  have lhR := hR2.lt
  have hRc0 := hR2.c0
  have hRc1 := hR2.c1
  have hRc2 := hR2.c2
  have hRf0 := hR2.free 0
  have hRf1 := hR2.free 1
  have hRf2 := hR2.free 2
  have lhE := hE2.lt
  have hEc0 := hE2.c0
  have hEc1 := hE2.c1
  have hEc2 := hE2.c2
  by_cases hf0 : f ≠ 0
  · have hfb : (f != 0) = true := bne_iff_ne.2 hf0
    go_wp2
    exact bodyPost_ret (v := wv (nul, f)) (two_res rfl rfl ((hR2.set3 nul).alloc _)) rfl ⟨by rw [HT.out, if_pos hf0], (set3 hb2 (by omega) _ _ _).alloc (by simpa using hb2.size) _⟩
  obtain rfl : f = 0 := by omega
  clear hf0
  by_cases hk : a.k = 0
  · have hkb : (a.k == 0) = true := beq_iff_eq.2 hk
    have HK := Lib.hid hk
    clear hk
    go_wp2_with (fail)
    go_at_call 31
    refine (null_any a _).mono ?_
    rintro e w3 ⟨rfl, hB3⟩
    clear lhN hNn0 hNn1 hNn2 hNn3 lhA hAc0 hAc1 hAc2 lhR hRc0 hRc1 hRc2 hRf0 hRf1 hRf2 lhE hEc0 hEc1 hEc2
    have hN3 := (hN2.alloc _).below hB3
    have hA3 := (hA2.alloc _).below hB3
    have hR3 := (hR2.alloc _).below hB3
    have hE3 := (hE2.alloc _).below hB3
    have hU3 := (Lies.new w2 u).below hB3
    have hb3 := (hb2.alloc (Nat.le_trans hb2.size (by simp)) _).trans (hB3.mono (Nat.le_trans hb2.size (by simp)))
    clear hB3 hN2 hA2 hR2 hE2 hb2
    have lhN := hN3.lt
    obtain ⟨hNn0, hNn1, hNn2, hNn3⟩ := hN3.at
    have lhA := hA3.lt
    have hAc0 := hA3.c0
    have hAc1 := hA3.c1
    have hAc2 := hA3.c2
    have lhR := hR3.lt
    have hRc0 := hR3.c0
    have hRc1 := hR3.c1
    have hRc2 := hR3.c2
    have hRf0 := hR3.free 0
    have hRf1 := hR3.free 1
    have hRf2 := hR3.free 2
    have lhE := hE3.lt
    have hEc0 := hE3.c0
    have hEc1 := hE3.c1
    have hEc2 := hE3.c2
    have lhU := hU3.lt
    have hUc0 := hU3.c0
    have hUc1 := hU3.c1
    have hUc2 := hU3.c2
    go_wp2
    exact bodyPost_ret (v := wv (nul, 0)) (two_res rfl rfl (hR3.set3 nul)) rfl ⟨by rw [HT.out, if_neg (by simp), if_pos (.inl HK.out)], set3 hb3 (by omega) _ _ _⟩
  have hkb : (a.k == 0) = false := beq_eq_false_iff_ne.2 hk
  have HK := Lib.hid hk
  clear hk
  go_wp2_with (fail)
  go_at_call 31
  refine (null_any a _).mono ?_
  rintro e w3 ⟨rfl, hB3⟩
  clear lhN hNn0 hNn1 hNn2 hNn3 lhA hAc0 hAc1 hAc2 lhR hRc0 hRc1 hRc2 hRf0 hRf1 hRf2 lhE hEc0 hEc1 hEc2
  have hN3 := (hN2.alloc _).below hB3
  have hA3 := (hA2.alloc _).below hB3
  have hR3 := (hR2.alloc _).below hB3
  have hE3 := (hE2.alloc _).below hB3
  have hU3 := (Lies.new w2 u).below hB3
  have hb3 := (hb2.alloc (Nat.le_trans hb2.size (by simp)) _).trans (hB3.mono (Nat.le_trans hb2.size (by simp)))
  clear hB3 hN2 hA2 hR2 hE2 hb2
  have lhN := hN3.lt
  obtain ⟨hNn0, hNn1, hNn2, hNn3⟩ := hN3.at
  have lhA := hA3.lt
  have hAc0 := hA3.c0
  have hAc1 := hA3.c1
  have hAc2 := hA3.c2
  have lhR := hR3.lt
  have hRc0 := hR3.c0
  have hRc1 := hR3.c1
  have hRc2 := hR3.c2
  have hRf0 := hR3.free 0
  have hRf1 := hR3.free 1
  have hRf2 := hR3.free 2
  have lhE := hE3.lt
  have hEc0 := hE3.c0
  have hEc1 := hE3.c1
  have hEc2 := hE3.c2
  have lhU := hU3.lt
  have hUc0 := hU3.c0
  have hUc1 := hU3.c1
  have hUc2 := hU3.c2
  by_cases hk : u.k = 0
  · have hkb2 : (u.k == 0) = true := beq_iff_eq.2 hk
    have HK2 := Lib.hid hk
    clear hk
    go_wp2_with (fail)
    go_at_call 31
    refine (null_any u _).mono ?_
    rintro e w4 ⟨rfl, hB4⟩
    clear lhN hNn0 hNn1 hNn2 hNn3 lhA hAc0 hAc1 hAc2 lhR hRc0 hRc1 hRc2 hRf0 hRf1 hRf2 lhE hEc0 hEc1 hEc2 lhU hUc0 hUc1 hUc2
    have hN4 := hN3.below hB4
    have hA4 := hA3.below hB4
    have hR4 := hR3.below hB4
    have hE4 := hE3.below hB4
    have hU4 := hU3.below hB4
    have hb4 := hb3.trans (hB4.mono (Nat.le_trans hb3.size (by simp)))
    clear hB4 hN3 hA3 hR3 hE3 hU3 hb3
    have lhN := hN4.lt
    obtain ⟨hNn0, hNn1, hNn2, hNn3⟩ := hN4.at
    have lhA := hA4.lt
    have hAc0 := hA4.c0
    have hAc1 := hA4.c1
    have hAc2 := hA4.c2
    have lhR := hR4.lt
    have hRc0 := hR4.c0
    have hRc1 := hR4.c1
    have hRc2 := hR4.c2
    have hRf0 := hR4.free 0
    have hRf1 := hR4.free 1
    have hRf2 := hR4.free 2
    have lhE := hE4.lt
    have hEc0 := hE4.c0
    have hEc1 := hE4.c1
    have hEc2 := hE4.c2
    have lhU := hU4.lt
    have hUc0 := hU4.c0
    have hUc1 := hU4.c1
    have hUc2 := hU4.c2
    go_wp2
    exact bodyPost_ret (v := wv (nul, 0)) (two_res rfl rfl (hR4.set3 nul)) rfl ⟨by rw [HT.out, if_neg (by simp), if_pos (.inr HK2.out)], set3 hb4 (by omega) _ _ _⟩
  have hkb2 : (u.k == 0) = false := beq_eq_false_iff_ne.2 hk
  have HK2 := Lib.hid hk
  clear hk
  go_wp2_with (fail)
  go_at_call 31
  refine (null_any u _).mono ?_
  rintro e w4 ⟨rfl, hB4⟩
  clear lhN hNn0 hNn1 hNn2 hNn3 lhA hAc0 hAc1 hAc2 lhR hRc0 hRc1 hRc2 hRf0 hRf1 hRf2 lhE hEc0 hEc1 hEc2 lhU hUc0 hUc1 hUc2
  have hN4 := hN3.below hB4
  have hA4 := hA3.below hB4
  have hR4 := hR3.below hB4
  have hE4 := hE3.below hB4
  have hU4 := hU3.below hB4
  have hb4 := hb3.trans (hB4.mono (Nat.le_trans hb3.size (by simp)))
  clear hB4 hN3 hA3 hR3 hE3 hU3 hb3
  have lhN := hN4.lt
  obtain ⟨hNn0, hNn1, hNn2, hNn3⟩ := hN4.at
  have lhA := hA4.lt
  have hAc0 := hA4.c0
  have hAc1 := hA4.c1
  have hAc2 := hA4.c2
  have lhR := hR4.lt
  have hRc0 := hR4.c0
  have hRc1 := hR4.c1
  have hRc2 := hR4.c2
  have hRf0 := hR4.free 0
  have hRf1 := hR4.free 1
  have hRf2 := hR4.free 2
  have lhE := hE4.lt
  have hEc0 := hE4.c0
  have hEc1 := hE4.c1
  have hEc2 := hE4.c2
  have lhU := hU4.lt
  have hUc0 := hU4.c0
  have hUc1 := hU4.c1
  have hUc2 := hU4.c2
  have hno : ¬ (a.k = 0 ∨ u.k = 0) := fun h => h.elim HK.out HK2.out
  have HNO := Lib.hid hno
  clear hno
  obtain ⟨b, hb⟩ : ∃ b, b = cmpO 4 (one a u) := ⟨_, rfl⟩
  have hcmp := compared_any 4 (by omega) a u
  rw [← hb] at hcmp
  have HX := Lib.hid hb
  clear hb
  go_wp2_with (fail)
  go_at_call 45
  refine (hcmp _).mono ?_
  rintro e w5 ⟨rfl, hB5⟩
  clear lhN hNn0 hNn1 hNn2 hNn3 lhA hAc0 hAc1 hAc2 lhR hRc0 hRc1 hRc2 hRf0 hRf1 hRf2 lhE hEc0 hEc1 hEc2 lhU hUc0 hUc1 hUc2
  have hN5 := hN4.below hB5
  have hA5 := hA4.below hB5
  have hR5 := hR4.below hB5
  have hE5 := hE4.below hB5
  have hU5 := hU4.below hB5
  have hb5 := hb4.trans (hB5.mono (Nat.le_trans hb4.size (by simp)))
  clear hB5 hN4 hA4 hR4 hE4 hU4 hb4
  have lhN := hN5.lt
  obtain ⟨hNn0, hNn1, hNn2, hNn3⟩ := hN5.at
  have lhA := hA5.lt
  have hAc0 := hA5.c0
  have hAc1 := hA5.c1
  have hAc2 := hA5.c2
  have lhR := hR5.lt
  have hRc0 := hR5.c0
  have hRc1 := hR5.c1
  have hRc2 := hR5.c2
  have hRf0 := hR5.free 0
  have hRf1 := hR5.free 1
  have hRf2 := hR5.free 2
  have lhE := hE5.lt
  have hEc0 := hE5.c0
  have hEc1 := hE5.c1
  have hEc2 := hE5.c2
  have lhU := hU5.lt
  have hUc0 := hU5.c0
  have hUc1 := hU5.c1
  have hUc2 := hU5.c2
  obtain ⟨x, hx⟩ : ∃ x, x = tr b := ⟨_, rfl⟩
  have htr := truth_any b
  rw [← hx] at htr
  have HY := Lib.hid hx
  clear hx
  go_wp2_with (fail)
  go_at_call 30
  refine (htr _).mono ?_
  rintro e w6 ⟨rfl, hB6⟩
  clear lhN hNn0 hNn1 hNn2 hNn3 lhA hAc0 hAc1 hAc2 lhR hRc0 hRc1 hRc2 hRf0 hRf1 hRf2 lhE hEc0 hEc1 hEc2 lhU hUc0 hUc1 hUc2
  have hN6 := hN5.below hB6
  have hA6 := hA5.below hB6
  have hR6 := hR5.below hB6
  have hE6 := hE5.below hB6
  have hU6 := hU5.below hB6
  have hb6 := hb5.trans (hB6.mono (Nat.le_trans hb5.size (by simp)))
  clear hB6 hN5 hA5 hR5 hE5 hU5 hb5
  unfold vv
  have lhN := hN6.lt
  obtain ⟨hNn0, hNn1, hNn2, hNn3⟩ := hN6.at
  have lhA := hA6.lt
  have hAc0 := hA6.c0
  have hAc1 := hA6.c1
  have hAc2 := hA6.c2
  have lhR := hR6.lt
  have hRc0 := hR6.c0
  have hRc1 := hR6.c1
  have hRc2 := hR6.c2
  have hRf0 := hR6.free 0
  have hRf1 := hR6.free 1
  have hRf2 := hR6.free 2
  have lhE := hE6.lt
  have hEc0 := hE6.c0
  have hEc1 := hE6.c1
  have hEc2 := hE6.c2
  have lhU := hU6.lt
  have hUc0 := hU6.c0
  have hUc1 := hU6.c1
  have hUc2 := hU6.c2
  go_wp2
  exact bodyPost_ret (v := wv (x, 0)) (two_res rfl rfl (hR6.set3 x)) rfl ⟨by rw [HT.out, if_neg (by simp), if_neg HNO.out, ← HX.out, ← HY.out], set3 hb6 (by omega) _ _ _⟩
set_option maxHeartbeats 400000 in
theorem two_12 (a : Vl) (y : X) (ih : WorkC y) (op : ByteArray) (n : Int) (g c : Nat) (o t : ByteArray) (m : Int) (q fs rs : Value) (w : World) (hq : NodeAt w g 4 o t m q) (hx : IsX w y o t m q) :
    Calls Try.prog 32 #[nd op ⟨#[62, 61]⟩ n (.slice (some ⟨g, 0, none⟩) 2 c), vv a, fs, rs] w fun e w' => e = .returned (wv (two 12 a (workX y))) ∧ Below w.heap.size w w' := by
  obtain ⟨u, hu⟩ : ∃ u, u = (workX y).1 := ⟨_, rfl⟩
  obtain ⟨f, hf⟩ : ∃ f, f = (workX y).2 := ⟨_, rfl⟩
  have hxv : workX y = (u, f) := by rw [hu, hf]
  rw [hxv]
  have hih : ∀ W, IsX W y o t m q → Calls Try.prog 14 #[nd o t m q, fs, rs] W fun e w' => e = .returned (wv (u, f)) ∧ Below W.heap.size W w' := fun W h => by
    rw [← hxv]; exact ih o t m q fs rs W h
  have HT := Lib.hid (show two 12 a (u, f) = if f ≠ 0 then (nul, f) else if a.k = 0 ∨ u.k = 0 then (nul, 0) else (tr (cmpO 5 (one a u)), 0) by simp [two])
  clear hu hf ih hxv
  unfold nd vv
  go_enter Try.func32, Try.ntmps32
  go_wp2_with (fail)
  go_at_call 30
  refine (truth_any false _).mono ?_
  rintro e w1 ⟨rfl, hB1⟩
  have hN1 := (lay3_box w op ⟨#[62, 61]⟩ n (.slice (some ⟨g, 0, none⟩) 2 c) a).below hB1
  have hA1 := (lay3_a w op ⟨#[62, 61]⟩ n (.slice (some ⟨g, 0, none⟩) 2 c) a).below hB1
  have hR1 := (lay3_r w op ⟨#[62, 61]⟩ n (.slice (some ⟨g, 0, none⟩) 2 c) a).below hB1
  have hb1 := (lay3_below w op ⟨#[62, 61]⟩ n (.slice (some ⟨g, 0, none⟩) 2 c) a).trans (hB1.mono (by simp; omega))
  clear hB1
  obtain ⟨q0, q1, q2, q3⟩ := hq.below hb1
  have lg := World.block_lt_of_cell? w1 _ q0
  have hx1 := hx.below (hb1.alloc hb1.size (.cells #[.int .i64 2, .int .i64 0, .string ⟨#[]⟩] 38))
  clear hx hq
  unfold vv tr
  have lhN := hN1.lt
  obtain ⟨hNn0, hNn1, hNn2, hNn3⟩ := hN1.at
  have lhA := hA1.lt
  have hAc0 := hA1.c0
  have hAc1 := hA1.c1
  have hAc2 := hA1.c2
  have lhR := hR1.lt
  have hRc0 := hR1.c0
  have hRc1 := hR1.c1
  have hRc2 := hR1.c2
  have hRf0 := hR1.free 0
  have hRf1 := hR1.free 1
  have hRf2 := hR1.free 2
  go_wp2_with (fail)
  go_at_call 14
  refine (hih _ hx1).mono ?_
  rintro e w2 ⟨rfl, hB2⟩
  clear q0 q1 q2 q3 lg hx1 hih lhN hNn0 hNn1 hNn2 hNn3 lhA hAc0 hAc1 hAc2 lhR hRc0 hRc1 hRc2 hRf0 hRf1 hRf2
  have hN2 := (hN1.alloc _).below hB2
  have hA2 := (hA1.alloc _).below hB2
  have hR2 := (hR1.alloc _).below hB2
  have hE2 := (Lies.new w1 (tr false)).below hB2
  have hb2 := (hb1.alloc (Nat.le_trans hb1.size (by simp)) _).trans (hB2.mono (Nat.le_trans hb1.size (by simp)))
  clear hB2 hN1 hA1 hR1 hb1
  unfold wv vv
  have lhN := hN2.lt
  obtain ⟨hNn0, hNn1, hNn2, hNn3⟩ := hN2.at
  have lhA := hA2.lt
  have hAc0 := hA2.c0
  have hAc1 := hA2.c1
  have hAc2 := hA2.c2
  have lhR := hR2.lt
  have hRc0 := hR2.c0
  have hRc1 := hR2.c1
  have hRc2 := hR2.c2
  have hRf0 := hR2.free 0
  have hRf1 := hR2.free 1
  have hRf2 := hR2.free 2
  have lhE := hE2.lt
  have hEc0 := hE2.c0
  have hEc1 := hE2.c1
  have hEc2 := hE2.c2
  by_cases hf0 : f ≠ 0
  · have hfb : (f != 0) = true := bne_iff_ne.2 hf0
    go_wp2
    exact bodyPost_ret (v := wv (nul, f)) (two_res rfl rfl ((hR2.set3 nul).alloc _)) rfl ⟨by rw [HT.out, if_pos hf0], (set3 hb2 (by omega) _ _ _).alloc (by simpa using hb2.size) _⟩
  obtain rfl : f = 0 := by omega
  clear hf0
  by_cases hk : a.k = 0
  · have hkb : (a.k == 0) = true := beq_iff_eq.2 hk
    have HK := Lib.hid hk
    clear hk
    go_wp2_with (fail)
    go_at_call 31
    refine (null_any a _).mono ?_
    rintro e w3 ⟨rfl, hB3⟩
    clear lhN hNn0 hNn1 hNn2 hNn3 lhA hAc0 hAc1 hAc2 lhR hRc0 hRc1 hRc2 hRf0 hRf1 hRf2 lhE hEc0 hEc1 hEc2
    have hN3 := (hN2.alloc _).below hB3
    have hA3 := (hA2.alloc _).below hB3
    have hR3 := (hR2.alloc _).below hB3
    have hE3 := (hE2.alloc _).below hB3
    have hU3 := (Lies.new w2 u).below hB3
    have hb3 := (hb2.alloc (Nat.le_trans hb2.size (by simp)) _).trans (hB3.mono (Nat.le_trans hb2.size (by simp)))
    clear hB3 hN2 hA2 hR2 hE2 hb2
    have lhN := hN3.lt
    obtain ⟨hNn0, hNn1, hNn2, hNn3⟩ := hN3.at
    have lhA := hA3.lt
    have hAc0 := hA3.c0
    have hAc1 := hA3.c1
    have hAc2 := hA3.c2
    have lhR := hR3.lt
    have hRc0 := hR3.c0
    have hRc1 := hR3.c1
    have hRc2 := hR3.c2
    have hRf0 := hR3.free 0
    have hRf1 := hR3.free 1
    have hRf2 := hR3.free 2
    have lhE := hE3.lt
    have hEc0 := hE3.c0
    have hEc1 := hE3.c1
    have hEc2 := hE3.c2
    have lhU := hU3.lt
    have hUc0 := hU3.c0
    have hUc1 := hU3.c1
    have hUc2 := hU3.c2
    go_wp2
    exact bodyPost_ret (v := wv (nul, 0)) (two_res rfl rfl (hR3.set3 nul)) rfl ⟨by rw [HT.out, if_neg (by simp), if_pos (.inl HK.out)], set3 hb3 (by omega) _ _ _⟩
  have hkb : (a.k == 0) = false := beq_eq_false_iff_ne.2 hk
  have HK := Lib.hid hk
  clear hk
  go_wp2_with (fail)
  go_at_call 31
  refine (null_any a _).mono ?_
  rintro e w3 ⟨rfl, hB3⟩
  clear lhN hNn0 hNn1 hNn2 hNn3 lhA hAc0 hAc1 hAc2 lhR hRc0 hRc1 hRc2 hRf0 hRf1 hRf2 lhE hEc0 hEc1 hEc2
  have hN3 := (hN2.alloc _).below hB3
  have hA3 := (hA2.alloc _).below hB3
  have hR3 := (hR2.alloc _).below hB3
  have hE3 := (hE2.alloc _).below hB3
  have hU3 := (Lies.new w2 u).below hB3
  have hb3 := (hb2.alloc (Nat.le_trans hb2.size (by simp)) _).trans (hB3.mono (Nat.le_trans hb2.size (by simp)))
  clear hB3 hN2 hA2 hR2 hE2 hb2
  have lhN := hN3.lt
  obtain ⟨hNn0, hNn1, hNn2, hNn3⟩ := hN3.at
  have lhA := hA3.lt
  have hAc0 := hA3.c0
  have hAc1 := hA3.c1
  have hAc2 := hA3.c2
  have lhR := hR3.lt
  have hRc0 := hR3.c0
  have hRc1 := hR3.c1
  have hRc2 := hR3.c2
  have hRf0 := hR3.free 0
  have hRf1 := hR3.free 1
  have hRf2 := hR3.free 2
  have lhE := hE3.lt
  have hEc0 := hE3.c0
  have hEc1 := hE3.c1
  have hEc2 := hE3.c2
  have lhU := hU3.lt
  have hUc0 := hU3.c0
  have hUc1 := hU3.c1
  have hUc2 := hU3.c2
  by_cases hk : u.k = 0
  · have hkb2 : (u.k == 0) = true := beq_iff_eq.2 hk
    have HK2 := Lib.hid hk
    clear hk
    go_wp2_with (fail)
    go_at_call 31
    refine (null_any u _).mono ?_
    rintro e w4 ⟨rfl, hB4⟩
    clear lhN hNn0 hNn1 hNn2 hNn3 lhA hAc0 hAc1 hAc2 lhR hRc0 hRc1 hRc2 hRf0 hRf1 hRf2 lhE hEc0 hEc1 hEc2 lhU hUc0 hUc1 hUc2
    have hN4 := hN3.below hB4
    have hA4 := hA3.below hB4
    have hR4 := hR3.below hB4
    have hE4 := hE3.below hB4
    have hU4 := hU3.below hB4
    have hb4 := hb3.trans (hB4.mono (Nat.le_trans hb3.size (by simp)))
    clear hB4 hN3 hA3 hR3 hE3 hU3 hb3
    have lhN := hN4.lt
    obtain ⟨hNn0, hNn1, hNn2, hNn3⟩ := hN4.at
    have lhA := hA4.lt
    have hAc0 := hA4.c0
    have hAc1 := hA4.c1
    have hAc2 := hA4.c2
    have lhR := hR4.lt
    have hRc0 := hR4.c0
    have hRc1 := hR4.c1
    have hRc2 := hR4.c2
    have hRf0 := hR4.free 0
    have hRf1 := hR4.free 1
    have hRf2 := hR4.free 2
    have lhE := hE4.lt
    have hEc0 := hE4.c0
    have hEc1 := hE4.c1
    have hEc2 := hE4.c2
    have lhU := hU4.lt
    have hUc0 := hU4.c0
    have hUc1 := hU4.c1
    have hUc2 := hU4.c2
    go_wp2
    exact bodyPost_ret (v := wv (nul, 0)) (two_res rfl rfl (hR4.set3 nul)) rfl ⟨by rw [HT.out, if_neg (by simp), if_pos (.inr HK2.out)], set3 hb4 (by omega) _ _ _⟩
  have hkb2 : (u.k == 0) = false := beq_eq_false_iff_ne.2 hk
  have HK2 := Lib.hid hk
  clear hk
  go_wp2_with (fail)
  go_at_call 31
  refine (null_any u _).mono ?_
  rintro e w4 ⟨rfl, hB4⟩
  clear lhN hNn0 hNn1 hNn2 hNn3 lhA hAc0 hAc1 hAc2 lhR hRc0 hRc1 hRc2 hRf0 hRf1 hRf2 lhE hEc0 hEc1 hEc2 lhU hUc0 hUc1 hUc2
  have hN4 := hN3.below hB4
  have hA4 := hA3.below hB4
  have hR4 := hR3.below hB4
  have hE4 := hE3.below hB4
  have hU4 := hU3.below hB4
  have hb4 := hb3.trans (hB4.mono (Nat.le_trans hb3.size (by simp)))
  clear hB4 hN3 hA3 hR3 hE3 hU3 hb3
  have lhN := hN4.lt
  obtain ⟨hNn0, hNn1, hNn2, hNn3⟩ := hN4.at
  have lhA := hA4.lt
  have hAc0 := hA4.c0
  have hAc1 := hA4.c1
  have hAc2 := hA4.c2
  have lhR := hR4.lt
  have hRc0 := hR4.c0
  have hRc1 := hR4.c1
  have hRc2 := hR4.c2
  have hRf0 := hR4.free 0
  have hRf1 := hR4.free 1
  have hRf2 := hR4.free 2
  have lhE := hE4.lt
  have hEc0 := hE4.c0
  have hEc1 := hE4.c1
  have hEc2 := hE4.c2
  have lhU := hU4.lt
  have hUc0 := hU4.c0
  have hUc1 := hU4.c1
  have hUc2 := hU4.c2
  have hno : ¬ (a.k = 0 ∨ u.k = 0) := fun h => h.elim HK.out HK2.out
  have HNO := Lib.hid hno
  clear hno
  obtain ⟨b, hb⟩ : ∃ b, b = cmpO 5 (one a u) := ⟨_, rfl⟩
  have hcmp := compared_any 5 (by omega) a u
  rw [← hb] at hcmp
  have HX := Lib.hid hb
  clear hb
  go_wp2_with (fail)
  go_at_call 45
  refine (hcmp _).mono ?_
  rintro e w5 ⟨rfl, hB5⟩
  clear lhN hNn0 hNn1 hNn2 hNn3 lhA hAc0 hAc1 hAc2 lhR hRc0 hRc1 hRc2 hRf0 hRf1 hRf2 lhE hEc0 hEc1 hEc2 lhU hUc0 hUc1 hUc2
  have hN5 := hN4.below hB5
  have hA5 := hA4.below hB5
  have hR5 := hR4.below hB5
  have hE5 := hE4.below hB5
  have hU5 := hU4.below hB5
  have hb5 := hb4.trans (hB5.mono (Nat.le_trans hb4.size (by simp)))
  clear hB5 hN4 hA4 hR4 hE4 hU4 hb4
  have lhN := hN5.lt
  obtain ⟨hNn0, hNn1, hNn2, hNn3⟩ := hN5.at
  have lhA := hA5.lt
  have hAc0 := hA5.c0
  have hAc1 := hA5.c1
  have hAc2 := hA5.c2
  have lhR := hR5.lt
  have hRc0 := hR5.c0
  have hRc1 := hR5.c1
  have hRc2 := hR5.c2
  have hRf0 := hR5.free 0
  have hRf1 := hR5.free 1
  have hRf2 := hR5.free 2
  have lhE := hE5.lt
  have hEc0 := hE5.c0
  have hEc1 := hE5.c1
  have hEc2 := hE5.c2
  have lhU := hU5.lt
  have hUc0 := hU5.c0
  have hUc1 := hU5.c1
  have hUc2 := hU5.c2
  obtain ⟨x, hx⟩ : ∃ x, x = tr b := ⟨_, rfl⟩
  have htr := truth_any b
  rw [← hx] at htr
  have HY := Lib.hid hx
  clear hx
  go_wp2_with (fail)
  go_at_call 30
  refine (htr _).mono ?_
  rintro e w6 ⟨rfl, hB6⟩
  clear lhN hNn0 hNn1 hNn2 hNn3 lhA hAc0 hAc1 hAc2 lhR hRc0 hRc1 hRc2 hRf0 hRf1 hRf2 lhE hEc0 hEc1 hEc2 lhU hUc0 hUc1 hUc2
  have hN6 := hN5.below hB6
  have hA6 := hA5.below hB6
  have hR6 := hR5.below hB6
  have hE6 := hE5.below hB6
  have hU6 := hU5.below hB6
  have hb6 := hb5.trans (hB6.mono (Nat.le_trans hb5.size (by simp)))
  clear hB6 hN5 hA5 hR5 hE5 hU5 hb5
  unfold vv
  have lhN := hN6.lt
  obtain ⟨hNn0, hNn1, hNn2, hNn3⟩ := hN6.at
  have lhA := hA6.lt
  have hAc0 := hA6.c0
  have hAc1 := hA6.c1
  have hAc2 := hA6.c2
  have lhR := hR6.lt
  have hRc0 := hR6.c0
  have hRc1 := hR6.c1
  have hRc2 := hR6.c2
  have hRf0 := hR6.free 0
  have hRf1 := hR6.free 1
  have hRf2 := hR6.free 2
  have lhE := hE6.lt
  have hEc0 := hE6.c0
  have hEc1 := hE6.c1
  have hEc2 := hE6.c2
  have lhU := hU6.lt
  have hUc0 := hU6.c0
  have hUc1 := hU6.c1
  have hUc2 := hU6.c2
  go_wp2
  exact bodyPost_ret (v := wv (x, 0)) (two_res rfl rfl (hR6.set3 x)) rfl ⟨by rw [HT.out, if_neg (by simp), if_neg HNO.out, ← HX.out, ← HY.out], set3 hb6 (by omega) _ _ _⟩
end Go.Proofs.Yteedbhkofgkpoaa
