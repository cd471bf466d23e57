/-
  The walk of eval.two: numbers.
-/
import Derived.Test.YteedbhkofgkpoaaEv6
namespace Go.Proofs.Yteedbhkofgkpoaa
open Go.RowKit Ev
set_option maxRecDepth 100000
set_option linter.unusedVariables false
set_option linter.unusedSimpArgs false
abbrev lay3 (w : World) (op text : ByteArray) (n : Int) (k : Value) (a : Vl) : World := ((w.alloc (.cells #[.string op, .string text, .int .i64 n, k] 27)).alloc (.cells #[.int .i64 a.k, .int .i64 a.n, .string a.s] 38)).alloc (.cells #[.int .i64 0, .int .i64 0, .string ⟨#[]⟩] 38)
theorem lay3_below (w : World) (op text : ByteArray) (n : Int) (k : Value) (a : Vl) : Below w.heap.size w (lay3 w op text n k a) := (((Below.refl _ _).alloc (Nat.le_refl _) _).alloc (by simp) _).alloc (by simp; omega) _
theorem lay3_box (w : World) (op text : ByteArray) (n : Int) (k : Value) (a : Vl) : Box (lay3 w op text n k a) w.heap.size op text n k := by
  unfold Box
  rw [lay3, Lib.alloc_old _ _ _ (by simp; omega), Lib.alloc_old _ _ _ (by simp)]
  exact heap_alloc_new w _
theorem lay3_a (w : World) (op text : ByteArray) (n : Int) (k : Value) (a : Vl) : Lies (lay3 w op text n k a) (w.heap.size + 1) a := by
  have h := heap_alloc_new (w.alloc (.cells #[.string op, .string text, .int .i64 n, k] 27)) (.cells #[.int .i64 a.k, .int .i64 a.n, .string a.s] 38)
  unfold Lies
  rw [lay3, Lib.alloc_old _ _ _ (by simp)]
  simpa using h
theorem lay3_r (w : World) (op text : ByteArray) (n : Int) (k : Value) (a : Vl) : Lies (lay3 w op text n k a) (w.heap.size + 1 + 1) nul := by
  have h := heap_alloc_new ((w.alloc (.cells #[.string op, .string text, .int .i64 n, k] 27)).alloc (.cells #[.int .i64 a.k, .int .i64 a.n, .string a.s] 38)) (.cells #[.int .i64 0, .int .i64 0, .string ⟨#[]⟩] 38)
  unfold Lies lay3 nul
  simpa using h
theorem two_res {tmps : Array Value} {W : World} {g : Nat} {v : Vl} {f : Int} (h6 : tmps.getD 8 undef = .pointer (some ⟨g, 0, none⟩)) (h7 : tmps.getD 9 undef = .int .i64 f) (h : Lies W g v) :
    (results Try.f32 tmps).run Try.prog W = .ok (wv (v, f)) W := by
  have c0 := h.c0
  have c1 := h.c1
  have c2 := h.c2
  have h6' : tmps[8]?.getD undef = .pointer (some ⟨g, 0, none⟩) := by simpa using h6
  have h7' : tmps[9]?.getD undef = .int .i64 f := by simpa using h7
  simp [results, Try.results32, go_sem, h6', h7', c0, c1, c2, wv, vv]
set_option maxHeartbeats 400000 in
theorem two_0 (a : Vl) (y : X) (ih : WorkC y) (hin : In64 a.n) (hin2 : In64 (workX y).1.n) (op : ByteArray) (n : Int) (g c : Nat) (o t : ByteArray) (m : Int) (q fs rs : Value) (w : World) (hq : NodeAt w g 4 o t m q) (hx : IsX w y o t m q) :
    Calls Try.prog 32 #[nd op ⟨#[43]⟩ n (.slice (some ⟨g, 0, none⟩) 2 c), vv a, fs, rs] w fun e w' => e = .returned (wv (two 0 a (workX y))) ∧ Below w.heap.size w w' := by
  obtain ⟨u, hu⟩ : ∃ u, u = (workX y).1 := ⟨_, rfl⟩
  obtain ⟨f, hf⟩ : ∃ f, f = (workX y).2 := ⟨_, rfl⟩
  have hxv : workX y = (u, f) := by rw [hu, hf]
  rw [hxv]
  have hih : ∀ W, IsX W y o t m q → Calls Try.prog 14 #[nd o t m q, fs, rs] W fun e w' => e = .returned (wv (u, f)) ∧ Below W.heap.size W w' := fun W h => by
    rw [← hxv]; exact ih o t m q fs rs W h
  rw [hxv] at hin2
  have HT := Lib.hid (show two 0 a (u, f) = if f ≠ 0 then (nul, f) else if a.k = 0 ∨ u.k = 0 then (nul, 0) else numd 0 a.n u.n by simp [two])
  clear hu hf ih hxv
  unfold nd vv
  go_enter Try.func32, Try.ntmps32
  go_wp2_with (fail)
  go_at_call 30
  refine (truth_any false _).mono ?_
  rintro e w1 ⟨rfl, hB1⟩
  have hN1 := (lay3_box w op ⟨#[43]⟩ n (.slice (some ⟨g, 0, none⟩) 2 c) a).below hB1
  have hA1 := (lay3_a w op ⟨#[43]⟩ n (.slice (some ⟨g, 0, none⟩) 2 c) a).below hB1
  have hR1 := (lay3_r w op ⟨#[43]⟩ n (.slice (some ⟨g, 0, none⟩) 2 c) a).below hB1
  have hb1 := (lay3_below w op ⟨#[43]⟩ n (.slice (some ⟨g, 0, none⟩) 2 c) a).trans (hB1.mono (by simp; omega))
  clear hB1
  obtain ⟨q0, q1, q2, q3⟩ := hq.below hb1
  have lg := World.block_lt_of_cell? w1 _ q0
  have hx1 := hx.below (hb1.alloc hb1.size (.cells #[.int .i64 2, .int .i64 0, .string ⟨#[]⟩] 38))
  clear hx hq
  unfold vv tr
  have lhN := hN1.lt
  obtain ⟨hNn0, hNn1, hNn2, hNn3⟩ := hN1.at
  have lhA := hA1.lt
  have hAc0 := hA1.c0
  have hAc1 := hA1.c1
  have hAc2 := hA1.c2
  have lhR := hR1.lt
  have hRc0 := hR1.c0
  have hRc1 := hR1.c1
  have hRc2 := hR1.c2
  have hRf0 := hR1.free 0
  have hRf1 := hR1.free 1
  have hRf2 := hR1.free 2
  go_wp2_with (fail)
  go_at_call 14
  refine (hih _ hx1).mono ?_
  rintro e w2 ⟨rfl, hB2⟩
  clear q0 q1 q2 q3 lg hx1 hih lhN hNn0 hNn1 hNn2 hNn3 lhA hAc0 hAc1 hAc2 lhR hRc0 hRc1 hRc2 hRf0 hRf1 hRf2
  have hN2 := (hN1.alloc _).below hB2
  have hA2 := (hA1.alloc _).below hB2
  have hR2 := (hR1.alloc _).below hB2
  have hE2 := (Lies.new w1 (tr false)).below hB2
  have hb2 := (hb1.alloc (Nat.le_trans hb1.size (by simp)) _).trans (hB2.mono (Nat.le_trans hb1.size (by simp)))
  clear hB2 hN1 hA1 hR1 hb1
  unfold wv vv
  have lhN := hN2.lt
  obtain ⟨hNn0, hNn1, hNn2, hNn3⟩ := hN2.at
  have lhA := hA2.lt
  have hAc0 := hA2.c0
  have hAc1 := hA2.c1
  have hAc2 := hA2.c2
  have lhR := hR2.lt
  have hRc0 := hR2.c0
  have hRc1 := hR2.c1
  have hRc2 := hR2.c2
  have hRf0 := hR2.free 0
  have hRf1 := hR2.free 1
  have hRf2 := hR2.free 2
  have lhE := hE2.lt
  have hEc0 := hE2.c0
  have hEc1 := hE2.c1
  have hEc2 := hE2.c2
  by_cases hf0 : f ≠ 0
  · have hfb : (f != 0) = true := bne_iff_ne.2 hf0
    go_wp2
    exact bodyPost_ret (v := wv (nul, f)) (two_res rfl rfl ((hR2.set3 nul).alloc _)) rfl ⟨by rw [HT.out, if_pos hf0], (set3 hb2 (by omega) _ _ _).alloc (by simpa using hb2.size) _⟩
  obtain rfl : f = 0 := by omega
  clear hf0
  by_cases hk : a.k = 0
  · have hkb : (a.k == 0) = true := beq_iff_eq.2 hk
    have HK := Lib.hid hk
    clear hk
    go_wp2_with (fail)
    go_at_call 31
    refine (null_any a _).mono ?_
    rintro e w3 ⟨rfl, hB3⟩
    clear lhN hNn0 hNn1 hNn2 hNn3 lhA hAc0 hAc1 hAc2 lhR hRc0 hRc1 hRc2 hRf0 hRf1 hRf2 lhE hEc0 hEc1 hEc2
    have hN3 := (hN2.alloc _).below hB3
    have hA3 := (hA2.alloc _).below hB3
    have hR3 := (hR2.alloc _).below hB3
    have hE3 := (hE2.alloc _).below hB3
    have hU3 := (Lies.new w2 u).below hB3
    have hb3 := (hb2.alloc (Nat.le_trans hb2.size (by simp)) _).trans (hB3.mono (Nat.le_trans hb2.size (by simp)))
    clear hB3 hN2 hA2 hR2 hE2 hb2
    have lhN := hN3.lt
    obtain ⟨hNn0, hNn1, hNn2, hNn3⟩ := hN3.at
    have lhA := hA3.lt
    have hAc0 := hA3.c0
    have hAc1 := hA3.c1
    have hAc2 := hA3.c2
    have lhR := hR3.lt
    have hRc0 := hR3.c0
    have hRc1 := hR3.c1
    have hRc2 := hR3.c2
    have hRf0 := hR3.free 0
    have hRf1 := hR3.free 1
    have hRf2 := hR3.free 2
    have lhE := hE3.lt
    have hEc0 := hE3.c0
    have hEc1 := hE3.c1
    have hEc2 := hE3.c2
    have lhU := hU3.lt
    have hUc0 := hU3.c0
    have hUc1 := hU3.c1
    have hUc2 := hU3.c2
    go_wp2
    exact bodyPost_ret (v := wv (nul, 0)) (two_res rfl rfl (hR3.set3 nul)) rfl ⟨by rw [HT.out, if_neg (by simp), if_pos (.inl HK.out)], set3 hb3 (by omega) _ _ _⟩
  have hkb : (a.k == 0) = false := beq_eq_false_iff_ne.2 hk
  have HK := Lib.hid hk
  clear hk
  go_wp2_with (fail)
  go_at_call 31
  refine (null_any a _).mono ?_
  rintro e w3 ⟨rfl, hB3⟩
  clear lhN hNn0 hNn1 hNn2 hNn3 lhA hAc0 hAc1 hAc2 lhR hRc0 hRc1 hRc2 hRf0 hRf1 hRf2 lhE hEc0 hEc1 hEc2
  have hN3 := (hN2.alloc _).below hB3
  have hA3 := (hA2.alloc _).below hB3
  have hR3 := (hR2.alloc _).below hB3
  have hE3 := (hE2.alloc _).below hB3
  have hU3 := (Lies.new w2 u).below hB3
  have hb3 := (hb2.alloc (Nat.le_trans hb2.size (by simp)) _).trans (hB3.mono (Nat.le_trans hb2.size (by simp)))
  clear hB3 hN2 hA2 hR2 hE2 hb2
  have lhN := hN3.lt
  obtain ⟨hNn0, hNn1, hNn2, hNn3⟩ := hN3.at
  have lhA := hA3.lt
  have hAc0 := hA3.c0
  have hAc1 := hA3.c1
  have hAc2 := hA3.c2
  have lhR := hR3.lt
  have hRc0 := hR3.c0
  have hRc1 := hR3.c1
  have hRc2 := hR3.c2
  have hRf0 := hR3.free 0
  have hRf1 := hR3.free 1
  have hRf2 := hR3.free 2
  have lhE := hE3.lt
  have hEc0 := hE3.c0
  have hEc1 := hE3.c1
  have hEc2 := hE3.c2
  have lhU := hU3.lt
  have hUc0 := hU3.c0
  have hUc1 := hU3.c1
  have hUc2 := hU3.c2
  by_cases hk : u.k = 0
  · have hkb2 : (u.k == 0) = true := beq_iff_eq.2 hk
    have HK2 := Lib.hid hk
    clear hk
    go_wp2_with (fail)
    go_at_call 31
    refine (null_any u _).mono ?_
    rintro e w4 ⟨rfl, hB4⟩
    clear lhN hNn0 hNn1 hNn2 hNn3 lhA hAc0 hAc1 hAc2 lhR hRc0 hRc1 hRc2 hRf0 hRf1 hRf2 lhE hEc0 hEc1 hEc2 lhU hUc0 hUc1 hUc2
    have hN4 := hN3.below hB4
    have hA4 := hA3.below hB4
    have hR4 := hR3.below hB4
    have hE4 := hE3.below hB4
    have hU4 := hU3.below hB4
    have hb4 := hb3.trans (hB4.mono (Nat.le_trans hb3.size (by simp)))
    clear hB4 hN3 hA3 hR3 hE3 hU3 hb3
    have lhN := hN4.lt
    obtain ⟨hNn0, hNn1, hNn2, hNn3⟩ := hN4.at
    have lhA := hA4.lt
    have hAc0 := hA4.c0
    have hAc1 := hA4.c1
    have hAc2 := hA4.c2
    have lhR := hR4.lt
    have hRc0 := hR4.c0
    have hRc1 := hR4.c1
    have hRc2 := hR4.c2
    have hRf0 := hR4.free 0
    have hRf1 := hR4.free 1
    have hRf2 := hR4.free 2
    have lhE := hE4.lt
    have hEc0 := hE4.c0
    have hEc1 := hE4.c1
    have hEc2 := hE4.c2
    have lhU := hU4.lt
    have hUc0 := hU4.c0
    have hUc1 := hU4.c1
    have hUc2 := hU4.c2
    go_wp2
    exact bodyPost_ret (v := wv (nul, 0)) (two_res rfl rfl (hR4.set3 nul)) rfl ⟨by rw [HT.out, if_neg (by simp), if_pos (.inr HK2.out)], set3 hb4 (by omega) _ _ _⟩
  have hkb2 : (u.k == 0) = false := beq_eq_false_iff_ne.2 hk
  have HK2 := Lib.hid hk
  clear hk
  go_wp2_with (fail)
  go_at_call 31
  refine (null_any u _).mono ?_
  rintro e w4 ⟨rfl, hB4⟩
  clear lhN hNn0 hNn1 hNn2 hNn3 lhA hAc0 hAc1 hAc2 lhR hRc0 hRc1 hRc2 hRf0 hRf1 hRf2 lhE hEc0 hEc1 hEc2 lhU hUc0 hUc1 hUc2
  have hN4 := hN3.below hB4
  have hA4 := hA3.below hB4
  have hR4 := hR3.below hB4
  have hE4 := hE3.below hB4
  have hU4 := hU3.below hB4
  have hb4 := hb3.trans (hB4.mono (Nat.le_trans hb3.size (by simp)))
  clear hB4 hN3 hA3 hR3 hE3 hU3 hb3
  have lhN := hN4.lt
  obtain ⟨hNn0, hNn1, hNn2, hNn3⟩ := hN4.at
  have lhA := hA4.lt
  have hAc0 := hA4.c0
  have hAc1 := hA4.c1
  have hAc2 := hA4.c2
  have lhR := hR4.lt
  have hRc0 := hR4.c0
  have hRc1 := hR4.c1
  have hRc2 := hR4.c2
  have hRf0 := hR4.free 0
  have hRf1 := hR4.free 1
  have hRf2 := hR4.free 2
  have lhE := hE4.lt
  have hEc0 := hE4.c0
  have hEc1 := hE4.c1
  have hEc2 := hE4.c2
  have lhU := hU4.lt
  have hUc0 := hU4.c0
  have hUc1 := hU4.c1
  have hUc2 := hU4.c2
  have hno : ¬ (a.k = 0 ∨ u.k = 0) := fun h => h.elim HK.out HK2.out
  have HNO := Lib.hid hno
  clear hno
  obtain ⟨x, hx⟩ : ∃ x, x = numd 0 a.n u.n := ⟨_, rfl⟩
  have hnum := numbered_any 0 (by omega) a.n u.n
  rw [← hx] at hnum
  have HX := Lib.hid hx
  clear hx
  obtain ⟨x1, x2⟩ := x
  go_wp2_with (fail)
  go_at_call 33
  refine (hnum _ hin hin2).mono ?_
  rintro e w5 ⟨rfl, hB5⟩
  clear lhN hNn0 hNn1 hNn2 hNn3 lhA hAc0 hAc1 hAc2 lhR hRc0 hRc1 hRc2 hRf0 hRf1 hRf2 lhE hEc0 hEc1 hEc2 lhU hUc0 hUc1 hUc2
  have hN5 := hN4.below hB5
  have hA5 := hA4.below hB5
  have hR5 := hR4.below hB5
  have hE5 := hE4.below hB5
  have hU5 := hU4.below hB5
  have hb5 := hb4.trans (hB5.mono (Nat.le_trans hb4.size (by simp)))
  clear hB5 hN4 hA4 hR4 hE4 hU4 hb4
  unfold wv vv
  have lhN := hN5.lt
  obtain ⟨hNn0, hNn1, hNn2, hNn3⟩ := hN5.at
  have lhA := hA5.lt
  have hAc0 := hA5.c0
  have hAc1 := hA5.c1
  have hAc2 := hA5.c2
  have lhR := hR5.lt
  have hRc0 := hR5.c0
  have hRc1 := hR5.c1
  have hRc2 := hR5.c2
  have hRf0 := hR5.free 0
  have hRf1 := hR5.free 1
  have hRf2 := hR5.free 2
  have lhE := hE5.lt
  have hEc0 := hE5.c0
  have hEc1 := hE5.c1
  have hEc2 := hE5.c2
  have lhU := hU5.lt
  have hUc0 := hU5.c0
  have hUc1 := hU5.c1
  have hUc2 := hU5.c2
  go_wp2
  exact bodyPost_ret (v := wv (x1, x2)) (two_res rfl rfl (hR5.set3 x1)) rfl ⟨by rw [HT.out, if_neg (by simp), if_neg HNO.out, HX.out], set3 hb5 (by omega) _ _ _⟩
set_option maxHeartbeats 400000 in
theorem two_1 (a : Vl) (y : X) (ih : WorkC y) (hin : In64 a.n) (hin2 : In64 (workX y).1.n) (op : ByteArray) (n : Int) (g c : Nat) (o t : ByteArray) (m : Int) (q fs rs : Value) (w : World) (hq : NodeAt w g 4 o t m q) (hx : IsX w y o t m q) :
    Calls Try.prog 32 #[nd op ⟨#[45]⟩ n (.slice (some ⟨g, 0, none⟩) 2 c), vv a, fs, rs] w fun e w' => e = .returned (wv (two 1 a (workX y))) ∧ Below w.heap.size w w' := by
  obtain ⟨u, hu⟩ : ∃ u, u = (workX y).1 := ⟨_, rfl⟩
  obtain ⟨f, hf⟩ : ∃ f, f = (workX y).2 := ⟨_, rfl⟩
  have hxv : workX y = (u, f) := by rw [hu, hf]
  rw [hxv]
  have hih : ∀ W, IsX W y o t m q → Calls Try.prog 14 #[nd o t m q, fs, rs] W fun e w' => e = .returned (wv (u, f)) ∧ Below W.heap.size W w' := fun W h => by
    rw [← hxv]; exact ih o t m q fs rs W h
  rw [hxv] at hin2
  have HT := Lib.hid (show two 1 a (u, f) = if f ≠ 0 then (nul, f) else if a.k = 0 ∨ u.k = 0 then (nul, 0) else numd 1 a.n u.n by simp [two])
  clear hu hf ih hxv
  unfold nd vv
  go_enter Try.func32, Try.ntmps32
  go_wp2_with (fail)
  go_at_call 30
  refine (truth_any false _).mono ?_
  rintro e w1 ⟨rfl, hB1⟩
  have hN1 := (lay3_box w op ⟨#[45]⟩ n (.slice (some ⟨g, 0, none⟩) 2 c) a).below hB1
  have hA1 := (lay3_a w op ⟨#[45]⟩ n (.slice (some ⟨g, 0, none⟩) 2 c) a).below hB1
  have hR1 := (lay3_r w op ⟨#[45]⟩ n (.slice (some ⟨g, 0, none⟩) 2 c) a).below hB1
  have hb1 := (lay3_below w op ⟨#[45]⟩ n (.slice (some ⟨g, 0, none⟩) 2 c) a).trans (hB1.mono (by simp; omega))
  clear hB1
  obtain ⟨q0, q1, q2, q3⟩ := hq.below hb1
  have lg := World.block_lt_of_cell? w1 _ q0
  have hx1 := hx.below (hb1.alloc hb1.size (.cells #[.int .i64 2, .int .i64 0, .string ⟨#[]⟩] 38))
  clear hx hq
  unfold vv tr
  have lhN := hN1.lt
  obtain ⟨hNn0, hNn1, hNn2, hNn3⟩ := hN1.at
  have lhA := hA1.lt
  have hAc0 := hA1.c0
  have hAc1 := hA1.c1
  have hAc2 := hA1.c2
  have lhR := hR1.lt
  have hRc0 := hR1.c0
  have hRc1 := hR1.c1
  have hRc2 := hR1.c2
  have hRf0 := hR1.free 0
  have hRf1 := hR1.free 1
  have hRf2 := hR1.free 2
  go_wp2_with (fail)
  go_at_call 14
  refine (hih _ hx1).mono ?_
  rintro e w2 ⟨rfl, hB2⟩
  clear q0 q1 q2 q3 lg hx1 hih lhN hNn0 hNn1 hNn2 hNn3 lhA hAc0 hAc1 hAc2 lhR hRc0 hRc1 hRc2 hRf0 hRf1 hRf2
  have hN2 := (hN1.alloc _).below hB2
  have hA2 := (hA1.alloc _).below hB2
  have hR2 := (hR1.alloc _).below hB2
  have hE2 := (Lies.new w1 (tr false)).below hB2
  have hb2 := (hb1.alloc (Nat.le_trans hb1.size (by simp)) _).trans (hB2.mono (Nat.le_trans hb1.size (by simp)))
  clear hB2 hN1 hA1 hR1 hb1
  unfold wv vv
  have lhN := hN2.lt
  obtain ⟨hNn0, hNn1, hNn2, hNn3⟩ := hN2.at
  have lhA := hA2.lt
  have hAc0 := hA2.c0
  have hAc1 := hA2.c1
  have hAc2 := hA2.c2
  have lhR := hR2.lt
  have hRc0 := hR2.c0
  have hRc1 := hR2.c1
  have hRc2 := hR2.c2
  have hRf0 := hR2.free 0
  have hRf1 := hR2.free 1
  have hRf2 := hR2.free 2
  have lhE := hE2.lt
  have hEc0 := hE2.c0
  have hEc1 := hE2.c1
  have hEc2 := hE2.c2
  by_cases hf0 : f ≠ 0
  · have hfb : (f != 0) = true := bne_iff_ne.2 hf0
    go_wp2
    exact bodyPost_ret (v := wv (nul, f)) (two_res rfl rfl ((hR2.set3 nul).alloc _)) rfl ⟨by rw [HT.out, if_pos hf0], (set3 hb2 (by omega) _ _ _).alloc (by simpa using hb2.size) _⟩
  obtain rfl : f = 0 := by omega
  clear hf0
  by_cases hk : a.k = 0
  · have hkb : (a.k == 0) = true := beq_iff_eq.2 hk
    have HK := Lib.hid hk
    clear hk
    go_wp2_with (fail)
    go_at_call 31
    refine (null_any a _).mono ?_
    rintro e w3 ⟨rfl, hB3⟩
    clear lhN hNn0 hNn1 hNn2 hNn3 lhA hAc0 hAc1 hAc2 lhR hRc0 hRc1 hRc2 hRf0 hRf1 hRf2 lhE hEc0 hEc1 hEc2
    have hN3 := (hN2.alloc _).below hB3
    have hA3 := (hA2.alloc _).below hB3
    have hR3 := (hR2.alloc _).below hB3
    have hE3 := (hE2.alloc _).below hB3
    have hU3 := (Lies.new w2 u).below hB3
    have hb3 := (hb2.alloc (Nat.le_trans hb2.size (by simp)) _).trans (hB3.mono (Nat.le_trans hb2.size (by simp)))
    clear hB3 hN2 hA2 hR2 hE2 hb2
    have lhN := hN3.lt
    obtain ⟨hNn0, hNn1, hNn2, hNn3⟩ := hN3.at
    have lhA := hA3.lt
    have hAc0 := hA3.c0
    have hAc1 := hA3.c1
    have hAc2 := hA3.c2
    have lhR := hR3.lt
    have hRc0 := hR3.c0
    have hRc1 := hR3.c1
    have hRc2 := hR3.c2
    have hRf0 := hR3.free 0
    have hRf1 := hR3.free 1
    have hRf2 := hR3.free 2
    have lhE := hE3.lt
    have hEc0 := hE3.c0
    have hEc1 := hE3.c1
    have hEc2 := hE3.c2
    have lhU := hU3.lt
    have hUc0 := hU3.c0
    have hUc1 := hU3.c1
    have hUc2 := hU3.c2
    go_wp2
    exact bodyPost_ret (v := wv (nul, 0)) (two_res rfl rfl (hR3.set3 nul)) rfl ⟨by rw [HT.out, if_neg (by simp), if_pos (.inl HK.out)], set3 hb3 (by omega) _ _ _⟩
  have hkb : (a.k == 0) = false := beq_eq_false_iff_ne.2 hk
  have HK := Lib.hid hk
  clear hk
  go_wp2_with (fail)
  go_at_call 31
  refine (null_any a _).mono ?_
  rintro e w3 ⟨rfl, hB3⟩
  clear lhN hNn0 hNn1 hNn2 hNn3 lhA hAc0 hAc1 hAc2 lhR hRc0 hRc1 hRc2 hRf0 hRf1 hRf2 lhE hEc0 hEc1 hEc2
  have hN3 := (hN2.alloc _).below hB3
  have hA3 := (hA2.alloc _).below hB3
  have hR3 := (hR2.alloc _).below hB3
  have hE3 := (hE2.alloc _).below hB3
  have hU3 := (Lies.new w2 u).below hB3
  have hb3 := (hb2.alloc (Nat.le_trans hb2.size (by simp)) _).trans (hB3.mono (Nat.le_trans hb2.size (by simp)))
  clear hB3 hN2 hA2 hR2 hE2 hb2
  have lhN := hN3.lt
  obtain ⟨hNn0, hNn1, hNn2, hNn3⟩ := hN3.at
  have lhA := hA3.lt
  have hAc0 := hA3.c0
  have hAc1 := hA3.c1
  have hAc2 := hA3.c2
  have lhR := hR3.lt
  have hRc0 := hR3.c0
  have hRc1 := hR3.c1
  have hRc2 := hR3.c2
  have hRf0 := hR3.free 0
  have hRf1 := hR3.free 1
  have hRf2 := hR3.free 2
  have lhE := hE3.lt
  have hEc0 := hE3.c0
  have hEc1 := hE3.c1
  have hEc2 := hE3.c2
  have lhU := hU3.lt
  have hUc0 := hU3.c0
  have hUc1 := hU3.c1
  have hUc2 := hU3.c2
  by_cases hk : u.k = 0
  · have hkb2 : (u.k == 0) = true := beq_iff_eq.2 hk
    have HK2 := Lib.hid hk
    clear hk
    go_wp2_with (fail)
    go_at_call 31
    refine (null_any u _).mono ?_
    rintro e w4 ⟨rfl, hB4⟩
    clear lhN hNn0 hNn1 hNn2 hNn3 lhA hAc0 hAc1 hAc2 lhR hRc0 hRc1 hRc2 hRf0 hRf1 hRf2 lhE hEc0 hEc1 hEc2 lhU hUc0 hUc1 hUc2
    have hN4 := hN3.below hB4
    have hA4 := hA3.below hB4
    have hR4 := hR3.below hB4
    have hE4 := hE3.below hB4
    have hU4 := hU3.below hB4
    have hb4 := hb3.trans (hB4.mono (Nat.le_trans hb3.size (by simp)))
    clear hB4 hN3 hA3 hR3 hE3 hU3 hb3
    have lhN := hN4.lt
    obtain ⟨hNn0, hNn1, hNn2, hNn3⟩ := hN4.at
    have lhA := hA4.lt
    have hAc0 := hA4.c0
    have hAc1 := hA4.c1
    have hAc2 := hA4.c2
    have lhR := hR4.lt
    have hRc0 := hR4.c0
    have hRc1 := hR4.c1
    have hRc2 := hR4.c2
    have hRf0 := hR4.free 0
    have hRf1 := hR4.free 1
    have hRf2 := hR4.free 2
    have lhE := hE4.lt
    have hEc0 := hE4.c0
    have hEc1 := hE4.c1
    have hEc2 := hE4.c2
    have lhU := hU4.lt
    have hUc0 := hU4.c0
    have hUc1 := hU4.c1
    have hUc2 := hU4.c2
    go_wp2
    exact bodyPost_ret (v := wv (nul, 0)) (two_res rfl rfl (hR4.set3 nul)) rfl ⟨by rw [HT.out, if_neg (by simp), if_pos (.inr HK2.out)], set3 hb4 (by omega) _ _ _⟩
  have hkb2 : (u.k == 0) = false := beq_eq_false_iff_ne.2 hk
  have HK2 := Lib.hid hk
  clear hk
  go_wp2_with (fail)
  go_at_call 31
  refine (null_any u _).mono ?_
  rintro e w4 ⟨rfl, hB4⟩
  clear lhN hNn0 hNn1 hNn2 hNn3 lhA hAc0 hAc1 hAc2 lhR hRc0 hRc1 hRc2 hRf0 hRf1 hRf2 lhE hEc0 hEc1 hEc2 lhU hUc0 hUc1 hUc2
  have hN4 := hN3.below hB4
  have hA4 := hA3.below hB4
  have hR4 := hR3.below hB4
  have hE4 := hE3.below hB4
  have hU4 := hU3.below hB4
  have hb4 := hb3.trans (hB4.mono (Nat.le_trans hb3.size (by simp)))
  clear hB4 hN3 hA3 hR3 hE3 hU3 hb3
  have lhN := hN4.lt
  obtain ⟨hNn0, hNn1, hNn2, hNn3⟩ := hN4.at
  have lhA := hA4.lt
  have hAc0 := hA4.c0
  have hAc1 := hA4.c1
  have hAc2 := hA4.c2
  have lhR := hR4.lt
  have hRc0 := hR4.c0
  have hRc1 := hR4.c1
  have hRc2 := hR4.c2
  have hRf0 := hR4.free 0
  have hRf1 := hR4.free 1
  have hRf2 := hR4.free 2
  have lhE := hE4.lt
  have hEc0 := hE4.c0
  have hEc1 := hE4.c1
  have hEc2 := hE4.c2
  have lhU := hU4.lt
  have hUc0 := hU4.c0
  have hUc1 := hU4.c1
  have hUc2 := hU4.c2
  have hno : ¬ (a.k = 0 ∨ u.k = 0) := fun h => h.elim HK.out HK2.out
  have HNO := Lib.hid hno
  clear hno
  obtain ⟨x, hx⟩ : ∃ x, x = numd 1 a.n u.n := ⟨_, rfl⟩
  have hnum := numbered_any 1 (by omega) a.n u.n
  rw [← hx] at hnum
  have HX := Lib.hid hx
  clear hx
  obtain ⟨x1, x2⟩ := x
  go_wp2_with (fail)
  go_at_call 33
  refine (hnum _ hin hin2).mono ?_
  rintro e w5 ⟨rfl, hB5⟩
  clear lhN hNn0 hNn1 hNn2 hNn3 lhA hAc0 hAc1 hAc2 lhR hRc0 hRc1 hRc2 hRf0 hRf1 hRf2 lhE hEc0 hEc1 hEc2 lhU hUc0 hUc1 hUc2
  have hN5 := hN4.below hB5
  have hA5 := hA4.below hB5
  have hR5 := hR4.below hB5
  have hE5 := hE4.below hB5
  have hU5 := hU4.below hB5
  have hb5 := hb4.trans (hB5.mono (Nat.le_trans hb4.size (by simp)))
  clear hB5 hN4 hA4 hR4 hE4 hU4 hb4
  unfold wv vv
  have lhN := hN5.lt
  obtain ⟨hNn0, hNn1, hNn2, hNn3⟩ := hN5.at
  have lhA := hA5.lt
  have hAc0 := hA5.c0
  have hAc1 := hA5.c1
  have hAc2 := hA5.c2
  have lhR := hR5.lt
  have hRc0 := hR5.c0
  have hRc1 := hR5.c1
  have hRc2 := hR5.c2
  have hRf0 := hR5.free 0
  have hRf1 := hR5.free 1
  have hRf2 := hR5.free 2
  have lhE := hE5.lt
  have hEc0 := hE5.c0
  have hEc1 := hE5.c1
  have hEc2 := hE5.c2
  have lhU := hU5.lt
  have hUc0 := hU5.c0
  have hUc1 := hU5.c1
  have hUc2 := hU5.c2
  go_wp2
  exact bodyPost_ret (v := wv (x1, x2)) (two_res rfl rfl (hR5.set3 x1)) rfl ⟨by rw [HT.out, if_neg (by simp), if_neg HNO.out, HX.out], set3 hb5 (by omega) _ _ _⟩
set_option maxHeartbeats 400000 in
theorem two_2 (a : Vl) (y : X) (ih : WorkC y) (hin : In64 a.n) (hin2 : In64 (workX y).1.n) (op : ByteArray) (n : Int) (g c : Nat) (o t : ByteArray) (m : Int) (q fs rs : Value) (w : World) (hq : NodeAt w g 4 o t m q) (hx : IsX w y o t m q) :
    Calls Try.prog 32 #[nd op ⟨#[42]⟩ n (.slice (some ⟨g, 0, none⟩) 2 c), vv a, fs, rs] w fun e w' => e = .returned (wv (two 2 a (workX y))) ∧ Below w.heap.size w w' := by
  obtain ⟨u, hu⟩ : ∃ u, u = (workX y).1 := ⟨_, rfl⟩
  obtain ⟨f, hf⟩ : ∃ f, f = (workX y).2 := ⟨_, rfl⟩
  have hxv : workX y = (u, f) := by rw [hu, hf]
  rw [hxv]
  have hih : ∀ W, IsX W y o t m q → Calls Try.prog 14 #[nd o t m q, fs, rs] W fun e w' => e = .returned (wv (u, f)) ∧ Below W.heap.size W w' := fun W h => by
    rw [← hxv]; exact ih o t m q fs rs W h
  rw [hxv] at hin2
  have HT := Lib.hid (show two 2 a (u, f) = if f ≠ 0 then (nul, f) else if a.k = 0 ∨ u.k = 0 then (nul, 0) else numd 2 a.n u.n by simp [two])
  clear hu hf ih hxv
  unfold nd vv
  go_enter Try.func32, Try.ntmps32
  go_wp2_with (fail)
  go_at_call 30
  refine (truth_any false _).mono ?_
  rintro e w1 ⟨rfl, hB1⟩
  have hN1 := (lay3_box w op ⟨#[42]⟩ n (.slice (some ⟨g, 0, none⟩) 2 c) a).below hB1
  have hA1 := (lay3_a w op ⟨#[42]⟩ n (.slice (some ⟨g, 0, none⟩) 2 c) a).below hB1
  have hR1 := (lay3_r w op ⟨#[42]⟩ n (.slice (some ⟨g, 0, none⟩) 2 c) a).below hB1
  have hb1 := (lay3_below w op ⟨#[42]⟩ n (.slice (some ⟨g, 0, none⟩) 2 c) a).trans (hB1.mono (by simp; omega))
  clear hB1
  obtain ⟨q0, q1, q2, q3⟩ := hq.below hb1
  have lg := World.block_lt_of_cell? w1 _ q0
  have hx1 := hx.below (hb1.alloc hb1.size (.cells #[.int .i64 2, .int .i64 0, .string ⟨#[]⟩] 38))
  clear hx hq
  unfold vv tr
  have lhN := hN1.lt
  obtain ⟨hNn0, hNn1, hNn2, hNn3⟩ := hN1.at
  have lhA := hA1.lt
  have hAc0 := hA1.c0
  have hAc1 := hA1.c1
  have hAc2 := hA1.c2
  have lhR := hR1.lt
  have hRc0 := hR1.c0
  have hRc1 := hR1.c1
  have hRc2 := hR1.c2
  have hRf0 := hR1.free 0
  have hRf1 := hR1.free 1
  have hRf2 := hR1.free 2
  go_wp2_with (fail)
  go_at_call 14
  refine (hih _ hx1).mono ?_
  rintro e w2 ⟨rfl, hB2⟩
  clear q0 q1 q2 q3 lg hx1 hih lhN hNn0 hNn1 hNn2 hNn3 lhA hAc0 hAc1 hAc2 lhR hRc0 hRc1 hRc2 hRf0 hRf1 hRf2
  have hN2 := (hN1.alloc _).below hB2
  have hA2 := (hA1.alloc _).below hB2
  have hR2 := (hR1.alloc _).below hB2
  have hE2 := (Lies.new w1 (tr false)).below hB2
  have hb2 := (hb1.alloc (Nat.le_trans hb1.size (by simp)) _).trans (hB2.mono (Nat.le_trans hb1.size (by simp)))
  clear hB2 hN1 hA1 hR1 hb1
  unfold wv vv
  have lhN := hN2.lt
  obtain ⟨hNn0, hNn1, hNn2, hNn3⟩ := hN2.at
  have lhA := hA2.lt
  have hAc0 := hA2.c0
  have hAc1 := hA2.c1
  have hAc2 := hA2.c2
  have lhR := hR2.lt
  have hRc0 := hR2.c0
  have hRc1 := hR2.c1
  have hRc2 := hR2.c2
  have hRf0 := hR2.free 0
  have hRf1 := hR2.free 1
  have hRf2 := hR2.free 2
  have lhE := hE2.lt
  have hEc0 := hE2.c0
  have hEc1 := hE2.c1
  have hEc2 := hE2.c2
  by_cases hf0 : f ≠ 0
  · have hfb : (f != 0) = true := bne_iff_ne.2 hf0
    go_wp2
    exact bodyPost_ret (v := wv (nul, f)) (two_res rfl rfl ((hR2.set3 nul).alloc _)) rfl ⟨by rw [HT.out, if_pos hf0], (set3 hb2 (by omega) _ _ _).alloc (by simpa using hb2.size) _⟩
  obtain rfl : f = 0 := by omega
  clear hf0
  by_cases hk : a.k = 0
  · have hkb : (a.k == 0) = true := beq_iff_eq.2 hk
    have HK := Lib.hid hk
    clear hk
    go_wp2_with (fail)
    go_at_call 31
    refine (null_any a _).mono ?_
    rintro e w3 ⟨rfl, hB3⟩
    clear lhN hNn0 hNn1 hNn2 hNn3 lhA hAc0 hAc1 hAc2 lhR hRc0 hRc1 hRc2 hRf0 hRf1 hRf2 lhE hEc0 hEc1 hEc2
    have hN3 := (hN2.alloc _).below hB3
    have hA3 := (hA2.alloc _).below hB3
    have hR3 := (hR2.alloc _).below hB3
    have hE3 := (hE2.alloc _).below hB3
    have hU3 := (Lies.new w2 u).below hB3
    have hb3 := (hb2.alloc (Nat.le_trans hb2.size (by simp)) _).trans (hB3.mono (Nat.le_trans hb2.size (by simp)))
    clear hB3 hN2 hA2 hR2 hE2 hb2
    have lhN := hN3.lt
    obtain ⟨hNn0, hNn1, hNn2, hNn3⟩ := hN3.at
    have lhA := hA3.lt
    have hAc0 := hA3.c0
    have hAc1 := hA3.c1
    have hAc2 := hA3.c2
    have lhR := hR3.lt
    have hRc0 := hR3.c0
    have hRc1 := hR3.c1
    have hRc2 := hR3.c2
    have hRf0 := hR3.free 0
    have hRf1 := hR3.free 1
    have hRf2 := hR3.free 2
    have lhE := hE3.lt
    have hEc0 := hE3.c0
    have hEc1 := hE3.c1
    have hEc2 := hE3.c2
    have lhU := hU3.lt
    have hUc0 := hU3.c0
    have hUc1 := hU3.c1
    have hUc2 := hU3.c2
    go_wp2
    exact bodyPost_ret (v := wv (nul, 0)) (two_res rfl rfl (hR3.set3 nul)) rfl ⟨by rw [HT.out, if_neg (by simp), if_pos (.inl HK.out)], set3 hb3 (by omega) _ _ _⟩
  have hkb : (a.k == 0) = false := beq_eq_false_iff_ne.2 hk
  have HK := Lib.hid hk
  clear hk
  go_wp2_with (fail)
  go_at_call 31
  refine (null_any a _).mono ?_
  rintro e w3 ⟨rfl, hB3⟩
  clear lhN hNn0 hNn1 hNn2 hNn3 lhA hAc0 hAc1 hAc2 lhR hRc0 hRc1 hRc2 hRf0 hRf1 hRf2 lhE hEc0 hEc1 hEc2
  have hN3 := (hN2.alloc _).below hB3
  have hA3 := (hA2.alloc _).below hB3
  have hR3 := (hR2.alloc _).below hB3
  have hE3 := (hE2.alloc _).below hB3
  have hU3 := (Lies.new w2 u).below hB3
  have hb3 := (hb2.alloc (Nat.le_trans hb2.size (by simp)) _).trans (hB3.mono (Nat.le_trans hb2.size (by simp)))
  clear hB3 hN2 hA2 hR2 hE2 hb2
  have lhN := hN3.lt
  obtain ⟨hNn0, hNn1, hNn2, hNn3⟩ := hN3.at
  have lhA := hA3.lt
  have hAc0 := hA3.c0
  have hAc1 := hA3.c1
  have hAc2 := hA3.c2
  have lhR := hR3.lt
  have hRc0 := hR3.c0
  have hRc1 := hR3.c1
  have hRc2 := hR3.c2
  have hRf0 := hR3.free 0
  have hRf1 := hR3.free 1
  have hRf2 := hR3.free 2
  have lhE := hE3.lt
  have hEc0 := hE3.c0
  have hEc1 := hE3.c1
  have hEc2 := hE3.c2
  have lhU := hU3.lt
  have hUc0 := hU3.c0
  have hUc1 := hU3.c1
  have hUc2 := hU3.c2
  by_cases hk : u.k = 0
  · have hkb2 : (u.k == 0) = true := beq_iff_eq.2 hk
    have HK2 := Lib.hid hk
    clear hk
    go_wp2_with (fail)
    go_at_call 31
    refine (null_any u _).mono ?_
    rintro e w4 ⟨rfl, hB4⟩
    clear lhN hNn0 hNn1 hNn2 hNn3 lhA hAc0 hAc1 hAc2 lhR hRc0 hRc1 hRc2 hRf0 hRf1 hRf2 lhE hEc0 hEc1 hEc2 lhU hUc0 hUc1 hUc2
    have hN4 := hN3.below hB4
    have hA4 := hA3.below hB4
    have hR4 := hR3.below hB4
    have hE4 := hE3.below hB4
    have hU4 := hU3.below hB4
    have hb4 := hb3.trans (hB4.mono (Nat.le_trans hb3.size (by simp)))
    clear hB4 hN3 hA3 hR3 hE3 hU3 hb3
    have lhN := hN4.lt
    obtain ⟨hNn0, hNn1, hNn2, hNn3⟩ := hN4.at
    have lhA := hA4.lt
    have hAc0 := hA4.c0
    have hAc1 := hA4.c1
    have hAc2 := hA4.c2
    have lhR := hR4.lt
    have hRc0 := hR4.c0
    have hRc1 := hR4.c1
    have hRc2 := hR4.c2
    have hRf0 := hR4.free 0
    have hRf1 := hR4.free 1
    have hRf2 := hR4.free 2
    have lhE := hE4.lt
    have hEc0 := hE4.c0
    have hEc1 := hE4.c1
    have hEc2 := hE4.c2
    have lhU := hU4.lt
    have hUc0 := hU4.c0
    have hUc1 := hU4.c1
    have hUc2 := hU4.c2
    go_wp2
    exact bodyPost_ret (v := wv (nul, 0)) (two_res rfl rfl (hR4.set3 nul)) rfl ⟨by rw [HT.out, if_neg (by simp), if_pos (.inr HK2.out)], set3 hb4 (by omega) _ _ _⟩
  have hkb2 : (u.k == 0) = false := beq_eq_false_iff_ne.2 hk
  have HK2 := Lib.hid hk
  clear hk
  go_wp2_with (fail)
  go_at_call 31
  refine (null_any u _).mono ?_
  rintro e w4 ⟨rfl, hB4⟩
  clear lhN hNn0 hNn1 hNn2 hNn3 lhA hAc0 hAc1 hAc2 lhR hRc0 hRc1 hRc2 hRf0 hRf1 hRf2 lhE hEc0 hEc1 hEc2 lhU hUc0 hUc1 hUc2
  have hN4 := hN3.below hB4
  have hA4 := hA3.below hB4
  have hR4 := hR3.below hB4
  have hE4 := hE3.below hB4
  have hU4 := hU3.below hB4
  have hb4 := hb3.trans (hB4.mono (Nat.le_trans hb3.size (by simp)))
  clear hB4 hN3 hA3 hR3 hE3 hU3 hb3
  have lhN := hN4.lt
  obtain ⟨hNn0, hNn1, hNn2, hNn3⟩ := hN4.at
  have lhA := hA4.lt
  have hAc0 := hA4.c0
  have hAc1 := hA4.c1
  have hAc2 := hA4.c2
  have lhR := hR4.lt
  have hRc0 := hR4.c0
  have hRc1 := hR4.c1
  have hRc2 := hR4.c2
  have hRf0 := hR4.free 0
  have hRf1 := hR4.free 1
  have hRf2 := hR4.free 2
  have lhE := hE4.lt
  have hEc0 := hE4.c0
  have hEc1 := hE4.c1
  have hEc2 := hE4.c2
  have lhU := hU4.lt
  have hUc0 := hU4.c0
  have hUc1 := hU4.c1
  have hUc2 := hU4.c2
  have hno : ¬ (a.k = 0 ∨ u.k = 0) := fun h => h.elim HK.out HK2.out
  have HNO := Lib.hid hno
  clear hno
  obtain ⟨x, hx⟩ : ∃ x, x = numd 2 a.n u.n := ⟨_, rfl⟩
  have hnum := numbered_any 2 (by omega) a.n u.n
  rw [← hx] at hnum
  have HX := Lib.hid hx
  clear hx
  obtain ⟨x1, x2⟩ := x
  go_wp2_with (fail)
  go_at_call 33
  refine (hnum _ hin hin2).mono ?_
  rintro e w5 ⟨rfl, hB5⟩
  clear lhN hNn0 hNn1 hNn2 hNn3 lhA hAc0 hAc1 hAc2 lhR hRc0 hRc1 hRc2 hRf0 hRf1 hRf2 lhE hEc0 hEc1 hEc2 lhU hUc0 hUc1 hUc2
  have hN5 := hN4.below hB5
  have hA5 := hA4.below hB5
  have hR5 := hR4.below hB5
  have hE5 := hE4.below hB5
  have hU5 := hU4.below hB5
  have hb5 := hb4.trans (hB5.mono (Nat.le_trans hb4.size (by simp)))
  clear hB5 hN4 hA4 hR4 hE4 hU4 hb4
  unfold wv vv
  have lhN := hN5.lt
  obtain ⟨hNn0, hNn1, hNn2, hNn3⟩ := hN5.at
  have lhA := hA5.lt
  have hAc0 := hA5.c0
  have hAc1 := hA5.c1
  have hAc2 := hA5.c2
  have lhR := hR5.lt
  have hRc0 := hR5.c0
  have hRc1 := hR5.c1
  have hRc2 := hR5.c2
  have hRf0 := hR5.free 0
  have hRf1 := hR5.free 1
  have hRf2 := hR5.free 2
  have lhE := hE5.lt
  have hEc0 := hE5.c0
  have hEc1 := hE5.c1
  have hEc2 := hE5.c2
  have lhU := hU5.lt
  have hUc0 := hU5.c0
  have hUc1 := hU5.c1
  have hUc2 := hU5.c2
  go_wp2
  exact bodyPost_ret (v := wv (x1, x2)) (two_res rfl rfl (hR5.set3 x1)) rfl ⟨by rw [HT.out, if_neg (by simp), if_neg HNO.out, HX.out], set3 hb5 (by omega) _ _ _⟩
set_option maxHeartbeats 400000 in
theorem two_3 (a : Vl) (y : X) (ih : WorkC y) (hin : In64 a.n) (hin2 : In64 (workX y).1.n) (op : ByteArray) (n : Int) (g c : Nat) (o t : ByteArray) (m : Int) (q fs rs : Value) (w : World) (hq : NodeAt w g 4 o t m q) (hx : IsX w y o t m q) :
    Calls Try.prog 32 #[nd op ⟨#[47]⟩ n (.slice (some ⟨g, 0, none⟩) 2 c), vv a, fs, rs] w fun e w' => e = .returned (wv (two 3 a (workX y))) ∧ Below w.heap.size w w' := by
  obtain ⟨u, hu⟩ : ∃ u, u = (workX y).1 := ⟨_, rfl⟩
  obtain ⟨f, hf⟩ : ∃ f, f = (workX y).2 := ⟨_, rfl⟩
  have hxv : workX y = (u, f) := by rw [hu, hf]
  rw [hxv]
  have hih : ∀ W, IsX W y o t m q → Calls Try.prog 14 #[nd o t m q, fs, rs] W fun e w' => e = .returned (wv (u, f)) ∧ Below W.heap.size W w' := fun W h => by
    rw [← hxv]; exact ih o t m q fs rs W h
  rw [hxv] at hin2
  have HT := Lib.hid (show two 3 a (u, f) = if f ≠ 0 then (nul, f) else if a.k = 0 ∨ u.k = 0 then (nul, 0) else numd 3 a.n u.n by simp [two])
  clear hu hf ih hxv
  unfold nd vv
  go_enter Try.func32, Try.ntmps32
  go_wp2_with (fail)
  go_at_call 30
  refine (truth_any false _).mono ?_
  rintro e w1 ⟨rfl, hB1⟩
  have hN1 := (lay3_box w op ⟨#[47]⟩ n (.slice (some ⟨g, 0, none⟩) 2 c) a).below hB1
  have hA1 := (lay3_a w op ⟨#[47]⟩ n (.slice (some ⟨g, 0, none⟩) 2 c) a).below hB1
  have hR1 := (lay3_r w op ⟨#[47]⟩ n (.slice (some ⟨g, 0, none⟩) 2 c) a).below hB1
  have hb1 := (lay3_below w op ⟨#[47]⟩ n (.slice (some ⟨g, 0, none⟩) 2 c) a).trans (hB1.mono (by simp; omega))
  clear hB1
  obtain ⟨q0, q1, q2, q3⟩ := hq.below hb1
  have lg := World.block_lt_of_cell? w1 _ q0
  have hx1 := hx.below (hb1.alloc hb1.size (.cells #[.int .i64 2, .int .i64 0, .string ⟨#[]⟩] 38))
  clear hx hq
  unfold vv tr
  have lhN := hN1.lt
  obtain ⟨hNn0, hNn1, hNn2, hNn3⟩ := hN1.at
  have lhA := hA1.lt
  have hAc0 := hA1.c0
  have hAc1 := hA1.c1
  have hAc2 := hA1.c2
  have lhR := hR1.lt
  have hRc0 := hR1.c0
  have hRc1 := hR1.c1
  have hRc2 := hR1.c2
  have hRf0 := hR1.free 0
  have hRf1 := hR1.free 1
  have hRf2 := hR1.free 2
  go_wp2_with (fail)
  go_at_call 14
  refine (hih _ hx1).mono ?_
  rintro e w2 ⟨rfl, hB2⟩
  clear q0 q1 q2 q3 lg hx1 hih lhN hNn0 hNn1 hNn2 hNn3 lhA hAc0 hAc1 hAc2 lhR hRc0 hRc1 hRc2 hRf0 hRf1 hRf2
  have hN2 := (hN1.alloc _).below hB2
  have hA2 := (hA1.alloc _).below hB2
  have hR2 := (hR1.alloc _).below hB2
  have hE2 := (Lies.new w1 (tr false)).below hB2
  have hb2 := (hb1.alloc (Nat.le_trans hb1.size (by simp)) _).trans (hB2.mono (Nat.le_trans hb1.size (by simp)))
  clear hB2 hN1 hA1 hR1 hb1
  unfold wv vv
  have lhN := hN2.lt
  obtain ⟨hNn0, hNn1, hNn2, hNn3⟩ := hN2.at
  have lhA := hA2.lt
  have hAc0 := hA2.c0
  have hAc1 := hA2.c1
  have hAc2 := hA2.c2
  have lhR := hR2.lt
  have hRc0 := hR2.c0
  have hRc1 := hR2.c1
  have hRc2 := hR2.c2
  have hRf0 := hR2.free 0
  have hRf1 := hR2.free 1
  have hRf2 := hR2.free 2
  have lhE := hE2.lt
  have hEc0 := hE2.c0
  have hEc1 := hE2.c1
  have hEc2 := hE2.c2
  by_cases hf0 : f ≠ 0
  · have hfb : (f != 0) = true := bne_iff_ne.2 hf0
    go_wp2
    exact bodyPost_ret (v := wv (nul, f)) (two_res rfl rfl ((hR2.set3 nul).alloc _)) rfl ⟨by rw [HT.out, if_pos hf0], (set3 hb2 (by omega) _ _ _).alloc (by simpa using hb2.size) _⟩
  obtain rfl : f = 0 := by omega
  clear hf0
  by_cases hk : a.k = 0
  · have hkb : (a.k == 0) = true := beq_iff_eq.2 hk
    have HK := Lib.hid hk
    clear hk
    go_wp2_with (fail)
    go_at_call 31
    refine (null_any a _).mono ?_
    rintro e w3 ⟨rfl, hB3⟩
    clear lhN hNn0 hNn1 hNn2 hNn3 lhA hAc0 hAc1 hAc2 lhR hRc0 hRc1 hRc2 hRf0 hRf1 hRf2 lhE hEc0 hEc1 hEc2
    have hN3 := (hN2.alloc _).below hB3
    have hA3 := (hA2.alloc _).below hB3
    have hR3 := (hR2.alloc _).below hB3
    have hE3 := (hE2.alloc _).below hB3
    have hU3 := (Lies.new w2 u).below hB3
    have hb3 := (hb2.alloc (Nat.le_trans hb2.size (by simp)) _).trans (hB3.mono (Nat.le_trans hb2.size (by simp)))
    clear hB3 hN2 hA2 hR2 hE2 hb2
    have lhN := hN3.lt
    obtain ⟨hNn0, hNn1, hNn2, hNn3⟩ := hN3.at
    have lhA := hA3.lt
    have hAc0 := hA3.c0
    have hAc1 := hA3.c1
    have hAc2 := hA3.c2
    have lhR := hR3.lt
    have hRc0 := hR3.c0
    have hRc1 := hR3.c1
    have hRc2 := hR3.c2
    have hRf0 := hR3.free 0
    have hRf1 := hR3.free 1
    have hRf2 := hR3.free 2
    have lhE := hE3.lt
    have hEc0 := hE3.c0
    have hEc1 := hE3.c1
    have hEc2 := hE3.c2
    have lhU := hU3.lt
    have hUc0 := hU3.c0
    have hUc1 := hU3.c1
    have hUc2 := hU3.c2
    go_wp2
    exact bodyPost_ret (v := wv (nul, 0)) (two_res rfl rfl (hR3.set3 nul)) rfl ⟨by rw [HT.out, if_neg (by simp), if_pos (.inl HK.out)], set3 hb3 (by omega) _ _ _⟩
  have hkb : (a.k == 0) = false := beq_eq_false_iff_ne.2 hk
  have HK := Lib.hid hk
  clear hk
  go_wp2_with (fail)
  go_at_call 31
  refine (null_any a _).mono ?_
  rintro e w3 ⟨rfl, hB3⟩
  clear lhN hNn0 hNn1 hNn2 hNn3 lhA hAc0 hAc1 hAc2 lhR hRc0 hRc1 hRc2 hRf0 hRf1 hRf2 lhE hEc0 hEc1 hEc2
  have hN3 := (hN2.alloc _).below hB3
  have hA3 := (hA2.alloc _).below hB3
  have hR3 := (hR2.alloc _).below hB3
  have hE3 := (hE2.alloc _).below hB3
  have hU3 := (Lies.new w2 u).below hB3
  have hb3 := (hb2.alloc (Nat.le_trans hb2.size (by simp)) _).trans (hB3.mono (Nat.le_trans hb2.size (by simp)))
  clear hB3 hN2 hA2 hR2 hE2 hb2
  have lhN := hN3.lt
  obtain ⟨hNn0, hNn1, hNn2, hNn3⟩ := hN3.at
  have lhA := hA3.lt
  have hAc0 := hA3.c0
  have hAc1 := hA3.c1
  have hAc2 := hA3.c2
  have lhR := hR3.lt
  have hRc0 := hR3.c0
  have hRc1 := hR3.c1
  have hRc2 := hR3.c2
  have hRf0 := hR3.free 0
  have hRf1 := hR3.free 1
  have hRf2 := hR3.free 2
  have lhE := hE3.lt
  have hEc0 := hE3.c0
  have hEc1 := hE3.c1
  have hEc2 := hE3.c2
  have lhU := hU3.lt
  have hUc0 := hU3.c0
  have hUc1 := hU3.c1
  have hUc2 := hU3.c2
  by_cases hk : u.k = 0
  · have hkb2 : (u.k == 0) = true := beq_iff_eq.2 hk
    have HK2 := Lib.hid hk
    clear hk
    go_wp2_with (fail)
    go_at_call 31
    refine (null_any u _).mono ?_
    rintro e w4 ⟨rfl, hB4⟩
    clear lhN hNn0 hNn1 hNn2 hNn3 lhA hAc0 hAc1 hAc2 lhR hRc0 hRc1 hRc2 hRf0 hRf1 hRf2 lhE hEc0 hEc1 hEc2 lhU hUc0 hUc1 hUc2
    have hN4 := hN3.below hB4
    have hA4 := hA3.below hB4
    have hR4 := hR3.below hB4
    have hE4 := hE3.below hB4
    have hU4 := hU3.below hB4
    have hb4 := hb3.trans (hB4.mono (Nat.le_trans hb3.size (by simp)))
    clear hB4 hN3 hA3 hR3 hE3 hU3 hb3
    have lhN := hN4.lt
    obtain ⟨hNn0, hNn1, hNn2, hNn3⟩ := hN4.at
    have lhA := hA4.lt
    have hAc0 := hA4.c0
    have hAc1 := hA4.c1
    have hAc2 := hA4.c2
    have lhR := hR4.lt
    have hRc0 := hR4.c0
    have hRc1 := hR4.c1
    have hRc2 := hR4.c2
    have hRf0 := hR4.free 0
    have hRf1 := hR4.free 1
    have hRf2 := hR4.free 2
    have lhE := hE4.lt
    have hEc0 := hE4.c0
    have hEc1 := hE4.c1
    have hEc2 := hE4.c2
    have lhU := hU4.lt
    have hUc0 := hU4.c0
    have hUc1 := hU4.c1
    have hUc2 := hU4.c2
    go_wp2
    exact bodyPost_ret (v := wv (nul, 0)) (two_res rfl rfl (hR4.set3 nul)) rfl ⟨by rw [HT.out, if_neg (by simp), if_pos (.inr HK2.out)], set3 hb4 (by omega) _ _ _⟩
  have hkb2 : (u.k == 0) = false := beq_eq_false_iff_ne.2 hk
  have HK2 := Lib.hid hk
  clear hk
  go_wp2_with (fail)
  go_at_call 31
  refine (null_any u _).mono ?_
  rintro e w4 ⟨rfl, hB4⟩
  clear lhN hNn0 hNn1 hNn2 hNn3 lhA hAc0 hAc1 hAc2 lhR hRc0 hRc1 hRc2 hRf0 hRf1 hRf2 lhE hEc0 hEc1 hEc2 lhU hUc0 hUc1 hUc2
  have hN4 := hN3.below hB4
  have hA4 := hA3.below hB4
  have hR4 := hR3.below hB4
  have hE4 := hE3.below hB4
  have hU4 := hU3.below hB4
  have hb4 := hb3.trans (hB4.mono (Nat.le_trans hb3.size (by simp)))
  clear hB4 hN3 hA3 hR3 hE3 hU3 hb3
  have lhN := hN4.lt
  obtain ⟨hNn0, hNn1, hNn2, hNn3⟩ := hN4.at
  have lhA := hA4.lt
  have hAc0 := hA4.c0
  have hAc1 := hA4.c1
  have hAc2 := hA4.c2
  have lhR := hR4.lt
  have hRc0 := hR4.c0
  have hRc1 := hR4.c1
  have hRc2 := hR4.c2
  have hRf0 := hR4.free 0
  have hRf1 := hR4.free 1
  have hRf2 := hR4.free 2
  have lhE := hE4.lt
  have hEc0 := hE4.c0
  have hEc1 := hE4.c1
  have hEc2 := hE4.c2
  have lhU := hU4.lt
  have hUc0 := hU4.c0
  have hUc1 := hU4.c1
  have hUc2 := hU4.c2
  have hno : ¬ (a.k = 0 ∨ u.k = 0) := fun h => h.elim HK.out HK2.out
  have HNO := Lib.hid hno
  clear hno
  obtain ⟨x, hx⟩ : ∃ x, x = numd 3 a.n u.n := ⟨_, rfl⟩
  have hnum := numbered_any 3 (by omega) a.n u.n
  rw [← hx] at hnum
  have HX := Lib.hid hx
  clear hx
  obtain ⟨x1, x2⟩ := x
  go_wp2_with (fail)
  go_at_call 33
  refine (hnum _ hin hin2).mono ?_
  rintro e w5 ⟨rfl, hB5⟩
  clear lhN hNn0 hNn1 hNn2 hNn3 lhA hAc0 hAc1 hAc2 lhR hRc0 hRc1 hRc2 hRf0 hRf1 hRf2 lhE hEc0 hEc1 hEc2 lhU hUc0 hUc1 hUc2
  have hN5 := hN4.below hB5
  have hA5 := hA4.below hB5
  have hR5 := hR4.below hB5
  have hE5 := hE4.below hB5
  have hU5 := hU4.below hB5
  have hb5 := hb4.trans (hB5.mono (Nat.le_trans hb4.size (by simp)))
  clear hB5 hN4 hA4 hR4 hE4 hU4 hb4
  unfold wv vv
  have lhN := hN5.lt
  obtain ⟨hNn0, hNn1, hNn2, hNn3⟩ := hN5.at
  have lhA := hA5.lt
  have hAc0 := hA5.c0
  have hAc1 := hA5.c1
  have hAc2 := hA5.c2
  have lhR := hR5.lt
  have hRc0 := hR5.c0
  have hRc1 := hR5.c1
  have hRc2 := hR5.c2
  have hRf0 := hR5.free 0
  have hRf1 := hR5.free 1
  have hRf2 := hR5.free 2
  have lhE := hE5.lt
  have hEc0 := hE5.c0
  have hEc1 := hE5.c1
  have hEc2 := hE5.c2
  have lhU := hU5.lt
  have hUc0 := hU5.c0
  have hUc1 := hU5.c1
  have hUc2 := hU5.c2
  go_wp2
  exact bodyPost_ret (v := wv (x1, x2)) (two_res rfl rfl (hR5.set3 x1)) rfl ⟨by rw [HT.out, if_neg (by simp), if_neg HNO.out, HX.out], set3 hb5 (by omega) _ _ _⟩
set_option maxHeartbeats 400000 in
theorem two_4 (a : Vl) (y : X) (ih : WorkC y) (hin : In64 a.n) (hin2 : In64 (workX y).1.n) (op : ByteArray) (n : Int) (g c : Nat) (o t : ByteArray) (m : Int) (q fs rs : Value) (w : World) (hq : NodeAt w g 4 o t m q) (hx : IsX w y o t m q) :
    Calls Try.prog 32 #[nd op ⟨#[37]⟩ n (.slice (some ⟨g, 0, none⟩) 2 c), vv a, fs, rs] w fun e w' => e = .returned (wv (two 4 a (workX y))) ∧ Below w.heap.size w w' := by
  obtain ⟨u, hu⟩ : ∃ u, u = (workX y).1 := ⟨_, rfl⟩
  obtain ⟨f, hf⟩ : ∃ f, f = (workX y).2 := ⟨_, rfl⟩
  have hxv : workX y = (u, f) := by rw [hu, hf]
  rw [hxv]
  have hih : ∀ W, IsX W y o t m q → Calls Try.prog 14 #[nd o t m q, fs, rs] W fun e w' => e = .returned (wv (u, f)) ∧ Below W.heap.size W w' := fun W h => by
    rw [← hxv]; exact ih o t m q fs rs W h
  rw [hxv] at hin2
  have HT := Lib.hid (show two 4 a (u, f) = if f ≠ 0 then (nul, f) else if a.k = 0 ∨ u.k = 0 then (nul, 0) else numd 4 a.n u.n by simp [two])
  clear hu hf ih hxv
  unfold nd vv
  go_enter Try.func32, Try.ntmps32
  go_wp2_with (fail)
  go_at_call 30
  refine (truth_any false _).mono ?_
  rintro e w1 ⟨rfl, hB1⟩
  have hN1 := (lay3_box w op ⟨#[37]⟩ n (.slice (some ⟨g, 0, none⟩) 2 c) a).below hB1
  have hA1 := (lay3_a w op ⟨#[37]⟩ n (.slice (some ⟨g, 0, none⟩) 2 c) a).below hB1
  have hR1 := (lay3_r w op ⟨#[37]⟩ n (.slice (some ⟨g, 0, none⟩) 2 c) a).below hB1
  have hb1 := (lay3_below w op ⟨#[37]⟩ n (.slice (some ⟨g, 0, none⟩) 2 c) a).trans (hB1.mono (by simp; omega))
  clear hB1
  obtain ⟨q0, q1, q2, q3⟩ := hq.below hb1
  have lg := World.block_lt_of_cell? w1 _ q0
  have hx1 := hx.below (hb1.alloc hb1.size (.cells #[.int .i64 2, .int .i64 0, .string ⟨#[]⟩] 38))
  clear hx hq
  unfold vv tr
  have lhN := hN1.lt
  obtain ⟨hNn0, hNn1, hNn2, hNn3⟩ := hN1.at
  have lhA := hA1.lt
  have hAc0 := hA1.c0
  have hAc1 := hA1.c1
  have hAc2 := hA1.c2
  have lhR := hR1.lt
  have hRc0 := hR1.c0
  have hRc1 := hR1.c1
  have hRc2 := hR1.c2
  have hRf0 := hR1.free 0
  have hRf1 := hR1.free 1
  have hRf2 := hR1.free 2
  go_wp2_with (fail)
  go_at_call 14
  refine (hih _ hx1).mono ?_
  rintro e w2 ⟨rfl, hB2⟩
  clear q0 q1 q2 q3 lg hx1 hih lhN hNn0 hNn1 hNn2 hNn3 lhA hAc0 hAc1 hAc2 lhR hRc0 hRc1 hRc2 hRf0 hRf1 hRf2
  have hN2 := (hN1.alloc _).below hB2
  have hA2 := (hA1.alloc _).below hB2
  have hR2 := (hR1.alloc _).below hB2
  have hE2 := (Lies.new w1 (tr false)).below hB2
  have hb2 := (hb1.alloc (Nat.le_trans hb1.size (by simp)) _).trans (hB2.mono (Nat.le_trans hb1.size (by simp)))
  clear hB2 hN1 hA1 hR1 hb1
  unfold wv vv
  have lhN := hN2.lt
  obtain ⟨hNn0, hNn1, hNn2, hNn3⟩ := hN2.at
  have lhA := hA2.lt
  have hAc0 := hA2.c0
  have hAc1 := hA2.c1
  have hAc2 := hA2.c2
  have lhR := hR2.lt
  have hRc0 := hR2.c0
  have hRc1 := hR2.c1
  have hRc2 := hR2.c2
  have hRf0 := hR2.free 0
  have hRf1 := hR2.free 1
  have hRf2 := hR2.free 2
  have lhE := hE2.lt
  have hEc0 := hE2.c0
  have hEc1 := hE2.c1
  have hEc2 := hE2.c2
  by_cases hf0 : f ≠ 0
  · have hfb : (f != 0) = true := bne_iff_ne.2 hf0
    go_wp2
    exact bodyPost_ret (v := wv (nul, f)) (two_res rfl rfl ((hR2.set3 nul).alloc _)) rfl ⟨by rw [HT.out, if_pos hf0], (set3 hb2 (by omega) _ _ _).alloc (by simpa using hb2.size) _⟩
  obtain rfl : f = 0 := by omega
  clear hf0
  by_cases hk : a.k = 0
  · have hkb : (a.k == 0) = true := beq_iff_eq.2 hk
    have HK := Lib.hid hk
    clear hk
    go_wp2_with (fail)
    go_at_call 31
    refine (null_any a _).mono ?_
    rintro e w3 ⟨rfl, hB3⟩
    clear lhN hNn0 hNn1 hNn2 hNn3 lhA hAc0 hAc1 hAc2 lhR hRc0 hRc1 hRc2 hRf0 hRf1 hRf2 lhE hEc0 hEc1 hEc2
    have hN3 := (hN2.alloc _).below hB3
    have hA3 := (hA2.alloc _).below hB3
    have hR3 := (hR2.alloc _).below hB3
    have hE3 := (hE2.alloc _).below hB3
    have hU3 := (Lies.new w2 u).below hB3
    have hb3 := (hb2.alloc (Nat.le_trans hb2.size (by simp)) _).trans (hB3.mono (Nat.le_trans hb2.size (by simp)))
    clear hB3 hN2 hA2 hR2 hE2 hb2
    have lhN := hN3.lt
    obtain ⟨hNn0, hNn1, hNn2, hNn3⟩ := hN3.at
    have lhA := hA3.lt
    have hAc0 := hA3.c0
    have hAc1 := hA3.c1
    have hAc2 := hA3.c2
    have lhR := hR3.lt
    have hRc0 := hR3.c0
    have hRc1 := hR3.c1
    have hRc2 := hR3.c2
    have hRf0 := hR3.free 0
    have hRf1 := hR3.free 1
    have hRf2 := hR3.free 2
    have lhE := hE3.lt
    have hEc0 := hE3.c0
    have hEc1 := hE3.c1
    have hEc2 := hE3.c2
    have lhU := hU3.lt
    have hUc0 := hU3.c0
    have hUc1 := hU3.c1
    have hUc2 := hU3.c2
    go_wp2
    exact bodyPost_ret (v := wv (nul, 0)) (two_res rfl rfl (hR3.set3 nul)) rfl ⟨by rw [HT.out, if_neg (by simp), if_pos (.inl HK.out)], set3 hb3 (by omega) _ _ _⟩
  have hkb : (a.k == 0) = false := beq_eq_false_iff_ne.2 hk
  have HK := Lib.hid hk
  clear hk
  go_wp2_with (fail)
  go_at_call 31
  refine (null_any a _).mono ?_
  rintro e w3 ⟨rfl, hB3⟩
  clear lhN hNn0 hNn1 hNn2 hNn3 lhA hAc0 hAc1 hAc2 lhR hRc0 hRc1 hRc2 hRf0 hRf1 hRf2 lhE hEc0 hEc1 hEc2
  have hN3 := (hN2.alloc _).below hB3
  have hA3 := (hA2.alloc _).below hB3
  have hR3 := (hR2.alloc _).below hB3
  have hE3 := (hE2.alloc _).below hB3
  have hU3 := (Lies.new w2 u).below hB3
  have hb3 := (hb2.alloc (Nat.le_trans hb2.size (by simp)) _).trans (hB3.mono (Nat.le_trans hb2.size (by simp)))
  clear hB3 hN2 hA2 hR2 hE2 hb2
  have lhN := hN3.lt
  obtain ⟨hNn0, hNn1, hNn2, hNn3⟩ := hN3.at
  have lhA := hA3.lt
  have hAc0 := hA3.c0
  have hAc1 := hA3.c1
  have hAc2 := hA3.c2
  have lhR := hR3.lt
  have hRc0 := hR3.c0
  have hRc1 := hR3.c1
  have hRc2 := hR3.c2
  have hRf0 := hR3.free 0
  have hRf1 := hR3.free 1
  have hRf2 := hR3.free 2
  have lhE := hE3.lt
  have hEc0 := hE3.c0
  have hEc1 := hE3.c1
  have hEc2 := hE3.c2
  have lhU := hU3.lt
  have hUc0 := hU3.c0
  have hUc1 := hU3.c1
  have hUc2 := hU3.c2
  by_cases hk : u.k = 0
  · have hkb2 : (u.k == 0) = true := beq_iff_eq.2 hk
    have HK2 := Lib.hid hk
    clear hk
    go_wp2_with (fail)
    go_at_call 31
    refine (null_any u _).mono ?_
    rintro e w4 ⟨rfl, hB4⟩
    clear lhN hNn0 hNn1 hNn2 hNn3 lhA hAc0 hAc1 hAc2 lhR hRc0 hRc1 hRc2 hRf0 hRf1 hRf2 lhE hEc0 hEc1 hEc2 lhU hUc0 hUc1 hUc2
    have hN4 := hN3.below hB4
    have hA4 := hA3.below hB4
    have hR4 := hR3.below hB4
    have hE4 := hE3.below hB4
    have hU4 := hU3.below hB4
    have hb4 := hb3.trans (hB4.mono (Nat.le_trans hb3.size (by simp)))
    clear hB4 hN3 hA3 hR3 hE3 hU3 hb3
    have lhN := hN4.lt
    obtain ⟨hNn0, hNn1, hNn2, hNn3⟩ := hN4.at
    have lhA := hA4.lt
    have hAc0 := hA4.c0
    have hAc1 := hA4.c1
    have hAc2 := hA4.c2
    have lhR := hR4.lt
    have hRc0 := hR4.c0
    have hRc1 := hR4.c1
    have hRc2 := hR4.c2
    have hRf0 := hR4.free 0
    have hRf1 := hR4.free 1
    have hRf2 := hR4.free 2
    have lhE := hE4.lt
    have hEc0 := hE4.c0
    have hEc1 := hE4.c1
    have hEc2 := hE4.c2
    have lhU := hU4.lt
    have hUc0 := hU4.c0
    have hUc1 := hU4.c1
    have hUc2 := hU4.c2
    go_wp2
    exact bodyPost_ret (v := wv (nul, 0)) (two_res rfl rfl (hR4.set3 nul)) rfl ⟨by rw [HT.out, if_neg (by simp), if_pos (.inr HK2.out)], set3 hb4 (by omega) _ _ _⟩
  have hkb2 : (u.k == 0) = false := beq_eq_false_iff_ne.2 hk
  have HK2 := Lib.hid hk
  clear hk
  go_wp2_with (fail)
  go_at_call 31
  refine (null_any u _).mono ?_
  rintro e w4 ⟨rfl, hB4⟩
  clear lhN hNn0 hNn1 hNn2 hNn3 lhA hAc0 hAc1 hAc2 lhR hRc0 hRc1 hRc2 hRf0 hRf1 hRf2 lhE hEc0 hEc1 hEc2 lhU hUc0 hUc1 hUc2
  have hN4 := hN3.below hB4
  have hA4 := hA3.below hB4
  have hR4 := hR3.below hB4
  have hE4 := hE3.below hB4
  have hU4 := hU3.below hB4
  have hb4 := hb3.trans (hB4.mono (Nat.le_trans hb3.size (by simp)))
  clear hB4 hN3 hA3 hR3 hE3 hU3 hb3
  have lhN := hN4.lt
  obtain ⟨hNn0, hNn1, hNn2, hNn3⟩ := hN4.at
  have lhA := hA4.lt
  have hAc0 := hA4.c0
  have hAc1 := hA4.c1
  have hAc2 := hA4.c2
  have lhR := hR4.lt
  have hRc0 := hR4.c0
  have hRc1 := hR4.c1
  have hRc2 := hR4.c2
  have hRf0 := hR4.free 0
  have hRf1 := hR4.free 1
  have hRf2 := hR4.free 2
  have lhE := hE4.lt
  have hEc0 := hE4.c0
  have hEc1 := hE4.c1
  have hEc2 := hE4.c2
  have lhU := hU4.lt
  have hUc0 := hU4.c0
  have hUc1 := hU4.c1
  have hUc2 := hU4.c2
  have hno : ¬ (a.k = 0 ∨ u.k = 0) := fun h => h.elim HK.out HK2.out
  have HNO := Lib.hid hno
  clear hno
  obtain ⟨x, hx⟩ : ∃ x, x = numd 4 a.n u.n := ⟨_, rfl⟩
  have hnum := numbered_any 4 (by omega) a.n u.n
  rw [← hx] at hnum
  have HX := Lib.hid hx
  clear hx
  obtain ⟨x1, x2⟩ := x
  go_wp2_with (fail)
  go_at_call 33
  refine (hnum _ hin hin2).mono ?_
  rintro e w5 ⟨rfl, hB5⟩
  clear lhN hNn0 hNn1 hNn2 hNn3 lhA hAc0 hAc1 hAc2 lhR hRc0 hRc1 hRc2 hRf0 hRf1 hRf2 lhE hEc0 hEc1 hEc2 lhU hUc0 hUc1 hUc2
  have hN5 := hN4.below hB5
  have hA5 := hA4.below hB5
  have hR5 := hR4.below hB5
  have hE5 := hE4.below hB5
  have hU5 := hU4.below hB5
  have hb5 := hb4.trans (hB5.mono (Nat.le_trans hb4.size (by simp)))
  clear hB5 hN4 hA4 hR4 hE4 hU4 hb4
  unfold wv vv
  have lhN := hN5.lt
  obtain ⟨hNn0, hNn1, hNn2, hNn3⟩ := hN5.at
  have lhA := hA5.lt
  have hAc0 := hA5.c0
  have hAc1 := hA5.c1
  have hAc2 := hA5.c2
  have lhR := hR5.lt
  have hRc0 := hR5.c0
  have hRc1 := hR5.c1
  have hRc2 := hR5.c2
  have hRf0 := hR5.free 0
  have hRf1 := hR5.free 1
  have hRf2 := hR5.free 2
  have lhE := hE5.lt
  have hEc0 := hE5.c0
  have hEc1 := hE5.c1
  have hEc2 := hE5.c2
  have lhU := hU5.lt
  have hUc0 := hU5.c0
  have hUc1 := hU5.c1
  have hUc2 := hU5.c2
  go_wp2
  exact bodyPost_ret (v := wv (x1, x2)) (two_res rfl rfl (hR5.set3 x1)) rfl ⟨by rw [HT.out, if_neg (by simp), if_neg HNO.out, HX.out], set3 hb5 (by omega) _ _ _⟩
end Go.Proofs.Yteedbhkofgkpoaa
