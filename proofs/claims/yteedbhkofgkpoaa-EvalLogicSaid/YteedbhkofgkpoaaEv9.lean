/-
  The walk of eval.two: AND and OR.
-/
import Derived.Test.YteedbhkofgkpoaaEv8
namespace Go.Proofs.Yteedbhkofgkpoaa
open Go.RowKit Ev
set_option maxRecDepth 100000
set_option linter.unusedVariables false
set_option linter.unusedSimpArgs false
theorem two_end_0 {u : Vl} (h : u.k = 2 → u = ⟨2, 0, emp⟩ ∨ u = ⟨2, 1, emp⟩) : (u.k = 2 ∧ u.n = 0 ∧ u.s.toList = []) = (u = ⟨2, 0, emp⟩) := by
  apply propext
  constructor
  · rintro ⟨h1, h2, _⟩
    rcases h h1 with rfl | rfl
    · rfl
    · simp at h2
  · rintro rfl
    exact ⟨rfl, rfl, by simp⟩
theorem two_end_1 {u : Vl} (h : u.k = 2 → u = ⟨2, 0, emp⟩ ∨ u = ⟨2, 1, emp⟩) : (u.k = 2 ∧ u.n = 1 ∧ u.s.toList = []) = (u = ⟨2, 1, emp⟩) := by
  apply propext
  constructor
  · rintro ⟨h1, h2, _⟩
    rcases h h1 with rfl | rfl
    · simp at h2
    · rfl
  · rintro rfl
    exact ⟨rfl, rfl, by simp⟩
noncomputable instance : DecidableEq Vl := fun _ _ => Classical.propDecidable _
theorem two_5_eq {a u : Vl} {f : Int} (ha : ¬ a = ⟨2, 0, emp⟩) (hga : a.k = 2 → a = ⟨2, 0, emp⟩ ∨ a = ⟨2, 1, emp⟩) (hgu : u.k = 2 → u = ⟨2, 0, emp⟩ ∨ u = ⟨2, 1, emp⟩) :
    two 5 a (u, f) = if f ≠ 0 then (nul, f) else if u = ⟨2, 0, emp⟩ then (u, 0) else if a.k = 0 ∨ u.k = 0 then (nul, 0) else (⟨2, 1, emp⟩, 0) := by
  have e1 := two_end_0 hga
  have e2 := two_end_0 hgu
  simp [two, e1, e2, ha, tr]
theorem two_6_eq {a u : Vl} {f : Int} (ha : ¬ a = ⟨2, 1, emp⟩) (hga : a.k = 2 → a = ⟨2, 0, emp⟩ ∨ a = ⟨2, 1, emp⟩) (hgu : u.k = 2 → u = ⟨2, 0, emp⟩ ∨ u = ⟨2, 1, emp⟩) :
    two 6 a (u, f) = if f ≠ 0 then (nul, f) else if u = ⟨2, 1, emp⟩ then (u, 0) else if a.k = 0 ∨ u.k = 0 then (nul, 0) else (⟨2, 0, emp⟩, 0) := by
  have e1 := two_end_1 hga
  have e2 := two_end_1 hgu
  simp [two, e1, e2, ha, tr]
set_option maxHeartbeats 400000 in
theorem two_5e (y : X) (ih : WorkC y) (hgu : (workX y).1.k = 2 → (workX y).1 = ⟨2, 0, emp⟩ ∨ (workX y).1 = ⟨2, 1, emp⟩) (op : ByteArray) (n : Int) (g c : Nat) (o t : ByteArray) (m : Int) (q fs rs : Value) (w : World) (hq : NodeAt w g 4 o t m q) (hx : IsX w y o t m q) :
    Calls Try.prog 32 #[nd op ⟨#[65, 78, 68]⟩ n (.slice (some ⟨g, 0, none⟩) 2 c), vv ⟨2, 0, emp⟩, fs, rs] w fun e w' => e = .returned (wv (two 5 ⟨2, 0, emp⟩ (workX y))) ∧ Below w.heap.size w w' := by
  obtain ⟨u, hu⟩ : ∃ u, u = (workX y).1 := ⟨_, rfl⟩
  obtain ⟨f, hf⟩ : ∃ f, f = (workX y).2 := ⟨_, rfl⟩
  have hxv : workX y = (u, f) := by rw [hu, hf]
  rw [hxv] at hgu
  rw [hxv]
  have hih : ∀ W, IsX W y o t m q → Calls Try.prog 14 #[nd o t m q, fs, rs] W fun e w' => e = .returned (wv (u, f)) ∧ Below W.heap.size W w' := fun W h => by
    rw [← hxv]; exact ih o t m q fs rs W h
  have HT := Lib.hid (show two 5 ⟨2, 0, emp⟩ (u, f) = (⟨2, 0, emp⟩, 0) by simp [two])
  clear hu hf ih hxv
  unfold nd vv
  go_enter Try.func32, Try.ntmps32
  go_wp2_with (fail)
  go_at_call 30
  refine (truth_any false _).mono ?_
  rintro e w1 ⟨rfl, hB1⟩
  have hN1 := (lay3_box w op ⟨#[65, 78, 68]⟩ n (.slice (some ⟨g, 0, none⟩) 2 c) ⟨2, 0, emp⟩).below hB1
  have hA1 := (lay3_a w op ⟨#[65, 78, 68]⟩ n (.slice (some ⟨g, 0, none⟩) 2 c) ⟨2, 0, emp⟩).below hB1
  have hR1 := (lay3_r w op ⟨#[65, 78, 68]⟩ n (.slice (some ⟨g, 0, none⟩) 2 c) ⟨2, 0, emp⟩).below hB1
  have hb1 := (lay3_below w op ⟨#[65, 78, 68]⟩ n (.slice (some ⟨g, 0, none⟩) 2 c) ⟨2, 0, emp⟩).trans (hB1.mono (by simp; omega))
  clear hB1
  clear hx hq hih hgu
  unfold vv tr
  have lhN := hN1.lt
  obtain ⟨hNn0, hNn1, hNn2, hNn3⟩ := hN1.at
  have lhA := hA1.lt
  have hAc0 := hA1.c0
  have hAc1 := hA1.c1
  have hAc2 := hA1.c2
  have lhR := hR1.lt
  have hRc0 := hR1.c0
  have hRc1 := hR1.c1
  have hRc2 := hR1.c2
  have hRf0 := hR1.free 0
  have hRf1 := hR1.free 1
  have hRf2 := hR1.free 2
  go_wp2
  exact bodyPost_ret (v := wv (⟨2, 0, emp⟩, 0)) (two_res rfl rfl ((hR1.set3 ⟨2, 0, emp⟩).alloc _)) rfl ⟨by rw [HT.out], (set3 hb1 (by omega) _ _ _).alloc (by simpa using hb1.size) _⟩
set_option maxHeartbeats 400000 in
theorem two_5n (y : X) (ih : WorkC y) (hgu : (workX y).1.k = 2 → (workX y).1 = ⟨2, 0, emp⟩ ∨ (workX y).1 = ⟨2, 1, emp⟩) (op : ByteArray) (n : Int) (g c : Nat) (o t : ByteArray) (m : Int) (q fs rs : Value) (w : World) (hq : NodeAt w g 4 o t m q) (hx : IsX w y o t m q) :
    Calls Try.prog 32 #[nd op ⟨#[65, 78, 68]⟩ n (.slice (some ⟨g, 0, none⟩) 2 c), vv ⟨2, 1, emp⟩, fs, rs] w fun e w' => e = .returned (wv (two 5 ⟨2, 1, emp⟩ (workX y))) ∧ Below w.heap.size w w' := by
  obtain ⟨u, hu⟩ : ∃ u, u = (workX y).1 := ⟨_, rfl⟩
  obtain ⟨f, hf⟩ : ∃ f, f = (workX y).2 := ⟨_, rfl⟩
  have hxv : workX y = (u, f) := by rw [hu, hf]
  rw [hxv] at hgu
  rw [hxv]
  have hih : ∀ W, IsX W y o t m q → Calls Try.prog 14 #[nd o t m q, fs, rs] W fun e w' => e = .returned (wv (u, f)) ∧ Below W.heap.size W w' := fun W h => by
    rw [← hxv]; exact ih o t m q fs rs W h
  have HT := Lib.hid (two_5_eq (a := ⟨2, 1, emp⟩) (u := u) (f := f) (by simp) (fun _ => .inr rfl) hgu)
  clear hu hf ih hxv
  unfold nd vv
  go_enter Try.func32, Try.ntmps32
  go_wp2_with (fail)
  go_at_call 30
  refine (truth_any false _).mono ?_
  rintro e w1 ⟨rfl, hB1⟩
  have hN1 := (lay3_box w op ⟨#[65, 78, 68]⟩ n (.slice (some ⟨g, 0, none⟩) 2 c) ⟨2, 1, emp⟩).below hB1
  have hA1 := (lay3_a w op ⟨#[65, 78, 68]⟩ n (.slice (some ⟨g, 0, none⟩) 2 c) ⟨2, 1, emp⟩).below hB1
  have hR1 := (lay3_r w op ⟨#[65, 78, 68]⟩ n (.slice (some ⟨g, 0, none⟩) 2 c) ⟨2, 1, emp⟩).below hB1
  have hb1 := (lay3_below w op ⟨#[65, 78, 68]⟩ n (.slice (some ⟨g, 0, none⟩) 2 c) ⟨2, 1, emp⟩).trans (hB1.mono (by simp; omega))
  clear hB1
  obtain ⟨q0, q1, q2, q3⟩ := hq.below hb1
  have lg := World.block_lt_of_cell? w1 _ q0
  have hx1 := hx.below (hb1.alloc hb1.size (.cells #[.int .i64 2, .int .i64 0, .string ⟨#[]⟩] 38))
  clear hx hq
  unfold vv tr
  have lhN := hN1.lt
  obtain ⟨hNn0, hNn1, hNn2, hNn3⟩ := hN1.at
  have lhA := hA1.lt
  have hAc0 := hA1.c0
  have hAc1 := hA1.c1
  have hAc2 := hA1.c2
  have lhR := hR1.lt
  have hRc0 := hR1.c0
  have hRc1 := hR1.c1
  have hRc2 := hR1.c2
  have hRf0 := hR1.free 0
  have hRf1 := hR1.free 1
  have hRf2 := hR1.free 2
  go_wp2_with (fail)
  go_at_call 14
  refine (hih _ hx1).mono ?_
  rintro e w2 ⟨rfl, hB2⟩
  clear q0 q1 q2 q3 lg hx1 hih lhN hNn0 hNn1 hNn2 hNn3 lhA hAc0 hAc1 hAc2 lhR hRc0 hRc1 hRc2 hRf0 hRf1 hRf2
  have hN2 := (hN1.alloc _).below hB2
  have hA2 := (hA1.alloc _).below hB2
  have hR2 := (hR1.alloc _).below hB2
  have hE2 := (Lies.new w1 ⟨2, 0, emp⟩).below hB2
  have hb2 := (hb1.alloc (Nat.le_trans hb1.size (by simp)) _).trans (hB2.mono (Nat.le_trans hb1.size (by simp)))
  clear hB2 hN1 hA1 hR1 hb1
  unfold wv vv
  have lhN := hN2.lt
  obtain ⟨hNn0, hNn1, hNn2, hNn3⟩ := hN2.at
  have lhA := hA2.lt
  have hAc0 := hA2.c0
  have hAc1 := hA2.c1
  have hAc2 := hA2.c2
  have lhR := hR2.lt
  have hRc0 := hR2.c0
  have hRc1 := hR2.c1
  have hRc2 := hR2.c2
  have hRf0 := hR2.free 0
  have hRf1 := hR2.free 1
  have hRf2 := hR2.free 2
  have lhE := hE2.lt
  have hEc0 := hE2.c0
  have hEc1 := hE2.c1
  have hEc2 := hE2.c2
  by_cases hf0 : f ≠ 0
  · have hfb : (f != 0) = true := bne_iff_ne.2 hf0
    clear hgu
    go_wp2
    exact bodyPost_ret (v := wv (nul, f)) (two_res rfl rfl ((hR2.set3 nul).alloc _)) rfl ⟨by rw [HT.out, if_pos hf0], (set3 hb2 (by omega) _ _ _).alloc (by simpa using hb2.size) _⟩
  obtain rfl : f = 0 := by omega
  clear hf0
  by_cases hu2 : u.k = 2
  · rcases hgu hu2 with rfl | rfl
    · clear hgu hu2
      go_wp2
      exact bodyPost_ret (v := wv (⟨2, 0, emp⟩, 0)) (two_res rfl rfl ((hR2.set3 ⟨2, 0, emp⟩).alloc _)) rfl ⟨by rw [HT.out]; simp, (set3 hb2 (by omega) _ _ _).alloc (by simpa using hb2.size) _⟩
    · clear hgu hu2
      have HNE := Lib.hid (show ¬ (⟨2, 1, emp⟩ : Vl) = ⟨2, 0, emp⟩ by simp)
      have HK := Lib.hid (show ¬ (2 : Int) = 0 by omega)
      go_wp2_with (fail)
      go_at_call 31
      refine (null_any ⟨2, 1, emp⟩ _).mono ?_
      rintro e w3 ⟨rfl, hB3⟩
      clear lhN hNn0 hNn1 hNn2 hNn3 lhA hAc0 hAc1 hAc2 lhR hRc0 hRc1 hRc2 hRf0 hRf1 hRf2 lhE hEc0 hEc1 hEc2
      have hN3 := (hN2.alloc _).below hB3
      have hA3 := (hA2.alloc _).below hB3
      have hR3 := (hR2.alloc _).below hB3
      have hE3 := (hE2.alloc _).below hB3
      have hU3 := (Lies.new w2 ⟨2, 1, emp⟩).below hB3
      have hb3 := (hb2.alloc (Nat.le_trans hb2.size (by simp)) _).trans (hB3.mono (Nat.le_trans hb2.size (by simp)))
      clear hB3 hN2 hA2 hR2 hE2 hb2
      have lhN := hN3.lt
      obtain ⟨hNn0, hNn1, hNn2, hNn3⟩ := hN3.at
      have lhA := hA3.lt
      have hAc0 := hA3.c0
      have hAc1 := hA3.c1
      have hAc2 := hA3.c2
      have lhR := hR3.lt
      have hRc0 := hR3.c0
      have hRc1 := hR3.c1
      have hRc2 := hR3.c2
      have hRf0 := hR3.free 0
      have hRf1 := hR3.free 1
      have hRf2 := hR3.free 2
      have lhE := hE3.lt
      have hEc0 := hE3.c0
      have hEc1 := hE3.c1
      have hEc2 := hE3.c2
      have lhU := hU3.lt
      have hUc0 := hU3.c0
      have hUc1 := hU3.c1
      have hUc2 := hU3.c2
      have HK2 := Lib.hid (show ¬ (2 : Int) = 0 by omega)
      go_wp2_with (fail)
      go_at_call 31
      refine (null_any ⟨2, 1, emp⟩ _).mono ?_
      rintro e w4 ⟨rfl, hB4⟩
      clear lhN hNn0 hNn1 hNn2 hNn3 lhA hAc0 hAc1 hAc2 lhR hRc0 hRc1 hRc2 hRf0 hRf1 hRf2 lhE hEc0 hEc1 hEc2 lhU hUc0 hUc1 hUc2
      have hN4 := hN3.below hB4
      have hA4 := hA3.below hB4
      have hR4 := hR3.below hB4
      have hE4 := hE3.below hB4
      have hU4 := hU3.below hB4
      have hb4 := hb3.trans (hB4.mono (Nat.le_trans hb3.size (by simp)))
      clear hB4 hN3 hA3 hR3 hE3 hU3 hb3
      have lhN := hN4.lt
      obtain ⟨hNn0, hNn1, hNn2, hNn3⟩ := hN4.at
      have lhA := hA4.lt
      have hAc0 := hA4.c0
      have hAc1 := hA4.c1
      have hAc2 := hA4.c2
      have lhR := hR4.lt
      have hRc0 := hR4.c0
      have hRc1 := hR4.c1
      have hRc2 := hR4.c2
      have hRf0 := hR4.free 0
      have hRf1 := hR4.free 1
      have hRf2 := hR4.free 2
      have lhE := hE4.lt
      have hEc0 := hE4.c0
      have hEc1 := hE4.c1
      have hEc2 := hE4.c2
      have lhU := hU4.lt
      have hUc0 := hU4.c0
      have hUc1 := hU4.c1
      have hUc2 := hU4.c2
      go_wp2_with (fail)
      go_at_call 30
      refine (truth_any true _).mono ?_
      rintro e w5 ⟨rfl, hB5⟩
      clear lhN hNn0 hNn1 hNn2 hNn3 lhA hAc0 hAc1 hAc2 lhR hRc0 hRc1 hRc2 hRf0 hRf1 hRf2 lhE hEc0 hEc1 hEc2 lhU hUc0 hUc1 hUc2
      have hN5 := hN4.below hB5
      have hA5 := hA4.below hB5
      have hR5 := hR4.below hB5
      have hE5 := hE4.below hB5
      have hU5 := hU4.below hB5
      have hb5 := hb4.trans (hB5.mono (Nat.le_trans hb4.size (by simp)))
      clear hB5 hN4 hA4 hR4 hE4 hU4 hb4
      unfold vv tr
      have lhN := hN5.lt
      obtain ⟨hNn0, hNn1, hNn2, hNn3⟩ := hN5.at
      have lhA := hA5.lt
      have hAc0 := hA5.c0
      have hAc1 := hA5.c1
      have hAc2 := hA5.c2
      have lhR := hR5.lt
      have hRc0 := hR5.c0
      have hRc1 := hR5.c1
      have hRc2 := hR5.c2
      have hRf0 := hR5.free 0
      have hRf1 := hR5.free 1
      have hRf2 := hR5.free 2
      have lhE := hE5.lt
      have hEc0 := hE5.c0
      have hEc1 := hE5.c1
      have hEc2 := hE5.c2
      have lhU := hU5.lt
      have hUc0 := hU5.c0
      have hUc1 := hU5.c1
      have hUc2 := hU5.c2
      go_wp2
      exact bodyPost_ret (v := wv (⟨2, 1, emp⟩, 0)) (two_res rfl rfl (hR5.set3 ⟨2, 1, emp⟩)) rfl ⟨by rw [HT.out, if_neg (by simp), if_neg HNE.out, if_neg (fun h => h.elim HK.out HK2.out)], set3 hb5 (by omega) _ _ _⟩
  have HNE := Lib.hid (show ¬ u = ⟨2, 0, emp⟩ by rintro rfl; exact hu2 rfl)
  clear hgu
  have HK := Lib.hid (show ¬ (2 : Int) = 0 by omega)
  go_wp2_with (fail)
  go_at_call 31
  refine (null_any ⟨2, 1, emp⟩ _).mono ?_
  rintro e w3 ⟨rfl, hB3⟩
  clear lhN hNn0 hNn1 hNn2 hNn3 lhA hAc0 hAc1 hAc2 lhR hRc0 hRc1 hRc2 hRf0 hRf1 hRf2 lhE hEc0 hEc1 hEc2
  have hN3 := (hN2.alloc _).below hB3
  have hA3 := (hA2.alloc _).below hB3
  have hR3 := (hR2.alloc _).below hB3
  have hE3 := (hE2.alloc _).below hB3
  have hU3 := (Lies.new w2 u).below hB3
  have hb3 := (hb2.alloc (Nat.le_trans hb2.size (by simp)) _).trans (hB3.mono (Nat.le_trans hb2.size (by simp)))
  clear hB3 hN2 hA2 hR2 hE2 hb2
  have lhN := hN3.lt
  obtain ⟨hNn0, hNn1, hNn2, hNn3⟩ := hN3.at
  have lhA := hA3.lt
  have hAc0 := hA3.c0
  have hAc1 := hA3.c1
  have hAc2 := hA3.c2
  have lhR := hR3.lt
  have hRc0 := hR3.c0
  have hRc1 := hR3.c1
  have hRc2 := hR3.c2
  have hRf0 := hR3.free 0
  have hRf1 := hR3.free 1
  have hRf2 := hR3.free 2
  have lhE := hE3.lt
  have hEc0 := hE3.c0
  have hEc1 := hE3.c1
  have hEc2 := hE3.c2
  have lhU := hU3.lt
  have hUc0 := hU3.c0
  have hUc1 := hU3.c1
  have hUc2 := hU3.c2
  by_cases hk : u.k = 0
  · have hkb2 : (u.k == 0) = true := beq_iff_eq.2 hk
    have HK2 := Lib.hid hk
    clear hk
    go_wp2_with (fail)
    go_at_call 31
    refine (null_any u _).mono ?_
    rintro e w4 ⟨rfl, hB4⟩
    clear lhN hNn0 hNn1 hNn2 hNn3 lhA hAc0 hAc1 hAc2 lhR hRc0 hRc1 hRc2 hRf0 hRf1 hRf2 lhE hEc0 hEc1 hEc2 lhU hUc0 hUc1 hUc2
    have hN4 := hN3.below hB4
    have hA4 := hA3.below hB4
    have hR4 := hR3.below hB4
    have hE4 := hE3.below hB4
    have hU4 := hU3.below hB4
    have hb4 := hb3.trans (hB4.mono (Nat.le_trans hb3.size (by simp)))
    clear hB4 hN3 hA3 hR3 hE3 hU3 hb3
    have lhN := hN4.lt
    obtain ⟨hNn0, hNn1, hNn2, hNn3⟩ := hN4.at
    have lhA := hA4.lt
    have hAc0 := hA4.c0
    have hAc1 := hA4.c1
    have hAc2 := hA4.c2
    have lhR := hR4.lt
    have hRc0 := hR4.c0
    have hRc1 := hR4.c1
    have hRc2 := hR4.c2
    have hRf0 := hR4.free 0
    have hRf1 := hR4.free 1
    have hRf2 := hR4.free 2
    have lhE := hE4.lt
    have hEc0 := hE4.c0
    have hEc1 := hE4.c1
    have hEc2 := hE4.c2
    have lhU := hU4.lt
    have hUc0 := hU4.c0
    have hUc1 := hU4.c1
    have hUc2 := hU4.c2
    go_wp2
    exact bodyPost_ret (v := wv (nul, 0)) (two_res rfl rfl (hR4.set3 nul)) rfl ⟨by rw [HT.out, if_neg (by simp), if_neg HNE.out, if_pos (.inr HK2.out)], set3 hb4 (by omega) _ _ _⟩
  have hkb2 : (u.k == 0) = false := beq_eq_false_iff_ne.2 hk
  have HK2 := Lib.hid hk
  clear hk
  go_wp2_with (fail)
  go_at_call 31
  refine (null_any u _).mono ?_
  rintro e w4 ⟨rfl, hB4⟩
  clear lhN hNn0 hNn1 hNn2 hNn3 lhA hAc0 hAc1 hAc2 lhR hRc0 hRc1 hRc2 hRf0 hRf1 hRf2 lhE hEc0 hEc1 hEc2 lhU hUc0 hUc1 hUc2
  have hN4 := hN3.below hB4
  have hA4 := hA3.below hB4
  have hR4 := hR3.below hB4
  have hE4 := hE3.below hB4
  have hU4 := hU3.below hB4
  have hb4 := hb3.trans (hB4.mono (Nat.le_trans hb3.size (by simp)))
  clear hB4 hN3 hA3 hR3 hE3 hU3 hb3
  have lhN := hN4.lt
  obtain ⟨hNn0, hNn1, hNn2, hNn3⟩ := hN4.at
  have lhA := hA4.lt
  have hAc0 := hA4.c0
  have hAc1 := hA4.c1
  have hAc2 := hA4.c2
  have lhR := hR4.lt
  have hRc0 := hR4.c0
  have hRc1 := hR4.c1
  have hRc2 := hR4.c2
  have hRf0 := hR4.free 0
  have hRf1 := hR4.free 1
  have hRf2 := hR4.free 2
  have lhE := hE4.lt
  have hEc0 := hE4.c0
  have hEc1 := hE4.c1
  have hEc2 := hE4.c2
  have lhU := hU4.lt
  have hUc0 := hU4.c0
  have hUc1 := hU4.c1
  have hUc2 := hU4.c2
  go_wp2_with (fail)
  go_at_call 30
  refine (truth_any true _).mono ?_
  rintro e w5 ⟨rfl, hB5⟩
  clear lhN hNn0 hNn1 hNn2 hNn3 lhA hAc0 hAc1 hAc2 lhR hRc0 hRc1 hRc2 hRf0 hRf1 hRf2 lhE hEc0 hEc1 hEc2 lhU hUc0 hUc1 hUc2
  have hN5 := hN4.below hB5
  have hA5 := hA4.below hB5
  have hR5 := hR4.below hB5
  have hE5 := hE4.below hB5
  have hU5 := hU4.below hB5
  have hb5 := hb4.trans (hB5.mono (Nat.le_trans hb4.size (by simp)))
  clear hB5 hN4 hA4 hR4 hE4 hU4 hb4
  unfold vv tr
  have lhN := hN5.lt
  obtain ⟨hNn0, hNn1, hNn2, hNn3⟩ := hN5.at
  have lhA := hA5.lt
  have hAc0 := hA5.c0
  have hAc1 := hA5.c1
  have hAc2 := hA5.c2
  have lhR := hR5.lt
  have hRc0 := hR5.c0
  have hRc1 := hR5.c1
  have hRc2 := hR5.c2
  have hRf0 := hR5.free 0
  have hRf1 := hR5.free 1
  have hRf2 := hR5.free 2
  have lhE := hE5.lt
  have hEc0 := hE5.c0
  have hEc1 := hE5.c1
  have hEc2 := hE5.c2
  have lhU := hU5.lt
  have hUc0 := hU5.c0
  have hUc1 := hU5.c1
  have hUc2 := hU5.c2
  go_wp2
  exact bodyPost_ret (v := wv (⟨2, 1, emp⟩, 0)) (two_res rfl rfl (hR5.set3 ⟨2, 1, emp⟩)) rfl ⟨by rw [HT.out, if_neg (by simp), if_neg HNE.out, if_neg (fun h => h.elim HK.out HK2.out)], set3 hb5 (by omega) _ _ _⟩
set_option maxHeartbeats 400000 in
theorem two_5o (a : Vl) (y : X) (ih : WorkC y) (hna : ¬ a.k = 2) (hgu : (workX y).1.k = 2 → (workX y).1 = ⟨2, 0, emp⟩ ∨ (workX y).1 = ⟨2, 1, emp⟩) (op : ByteArray) (n : Int) (g c : Nat) (o t : ByteArray) (m : Int) (q fs rs : Value) (w : World) (hq : NodeAt w g 4 o t m q) (hx : IsX w y o t m q) :
    Calls Try.prog 32 #[nd op ⟨#[65, 78, 68]⟩ n (.slice (some ⟨g, 0, none⟩) 2 c), vv a, fs, rs] w fun e w' => e = .returned (wv (two 5 a (workX y))) ∧ Below w.heap.size w w' := by
  obtain ⟨u, hu⟩ : ∃ u, u = (workX y).1 := ⟨_, rfl⟩
  obtain ⟨f, hf⟩ : ∃ f, f = (workX y).2 := ⟨_, rfl⟩
  have hxv : workX y = (u, f) := by rw [hu, hf]
  rw [hxv] at hgu
  rw [hxv]
  have hih : ∀ W, IsX W y o t m q → Calls Try.prog 14 #[nd o t m q, fs, rs] W fun e w' => e = .returned (wv (u, f)) ∧ Below W.heap.size W w' := fun W h => by
    rw [← hxv]; exact ih o t m q fs rs W h
  have HT := Lib.hid (two_5_eq (a := a) (u := u) (f := f) (by rintro rfl; exact hna rfl) (fun h => absurd h hna) hgu)
  clear hu hf ih hxv
  unfold nd vv
  go_enter Try.func32, Try.ntmps32
  go_wp2_with (fail)
  go_at_call 30
  refine (truth_any false _).mono ?_
  rintro e w1 ⟨rfl, hB1⟩
  have hN1 := (lay3_box w op ⟨#[65, 78, 68]⟩ n (.slice (some ⟨g, 0, none⟩) 2 c) a).below hB1
  have hA1 := (lay3_a w op ⟨#[65, 78, 68]⟩ n (.slice (some ⟨g, 0, none⟩) 2 c) a).below hB1
  have hR1 := (lay3_r w op ⟨#[65, 78, 68]⟩ n (.slice (some ⟨g, 0, none⟩) 2 c) a).below hB1
  have hb1 := (lay3_below w op ⟨#[65, 78, 68]⟩ n (.slice (some ⟨g, 0, none⟩) 2 c) a).trans (hB1.mono (by simp; omega))
  clear hB1
  obtain ⟨q0, q1, q2, q3⟩ := hq.below hb1
  have lg := World.block_lt_of_cell? w1 _ q0
  have hx1 := hx.below (hb1.alloc hb1.size (.cells #[.int .i64 2, .int .i64 0, .string ⟨#[]⟩] 38))
  clear hx hq
  unfold vv tr
  have lhN := hN1.lt
  obtain ⟨hNn0, hNn1, hNn2, hNn3⟩ := hN1.at
  have lhA := hA1.lt
  have hAc0 := hA1.c0
  have hAc1 := hA1.c1
  have hAc2 := hA1.c2
  have lhR := hR1.lt
  have hRc0 := hR1.c0
  have hRc1 := hR1.c1
  have hRc2 := hR1.c2
  have hRf0 := hR1.free 0
  have hRf1 := hR1.free 1
  have hRf2 := hR1.free 2
  go_wp2_with (fail)
  go_at_call 14
  refine (hih _ hx1).mono ?_
  rintro e w2 ⟨rfl, hB2⟩
  clear q0 q1 q2 q3 lg hx1 hih lhN hNn0 hNn1 hNn2 hNn3 lhA hAc0 hAc1 hAc2 lhR hRc0 hRc1 hRc2 hRf0 hRf1 hRf2
  have hN2 := (hN1.alloc _).below hB2
  have hA2 := (hA1.alloc _).below hB2
  have hR2 := (hR1.alloc _).below hB2
  have hE2 := (Lies.new w1 ⟨2, 0, emp⟩).below hB2
  have hb2 := (hb1.alloc (Nat.le_trans hb1.size (by simp)) _).trans (hB2.mono (Nat.le_trans hb1.size (by simp)))
  clear hB2 hN1 hA1 hR1 hb1
  unfold wv vv
  have lhN := hN2.lt
  obtain ⟨hNn0, hNn1, hNn2, hNn3⟩ := hN2.at
  have lhA := hA2.lt
  have hAc0 := hA2.c0
  have hAc1 := hA2.c1
  have hAc2 := hA2.c2
  have lhR := hR2.lt
  have hRc0 := hR2.c0
  have hRc1 := hR2.c1
  have hRc2 := hR2.c2
  have hRf0 := hR2.free 0
  have hRf1 := hR2.free 1
  have hRf2 := hR2.free 2
  have lhE := hE2.lt
  have hEc0 := hE2.c0
  have hEc1 := hE2.c1
  have hEc2 := hE2.c2
  by_cases hf0 : f ≠ 0
  · have hfb : (f != 0) = true := bne_iff_ne.2 hf0
    clear hgu
    go_wp2
    exact bodyPost_ret (v := wv (nul, f)) (two_res rfl rfl ((hR2.set3 nul).alloc _)) rfl ⟨by rw [HT.out, if_pos hf0], (set3 hb2 (by omega) _ _ _).alloc (by simpa using hb2.size) _⟩
  obtain rfl : f = 0 := by omega
  clear hf0
  by_cases hu2 : u.k = 2
  · rcases hgu hu2 with rfl | rfl
    · clear hgu hu2
      go_wp2
      exact bodyPost_ret (v := wv (⟨2, 0, emp⟩, 0)) (two_res rfl rfl ((hR2.set3 ⟨2, 0, emp⟩).alloc _)) rfl ⟨by rw [HT.out]; simp, (set3 hb2 (by omega) _ _ _).alloc (by simpa using hb2.size) _⟩
    · clear hgu hu2
      have HNE := Lib.hid (show ¬ (⟨2, 1, emp⟩ : Vl) = ⟨2, 0, emp⟩ by simp)
      by_cases hk : a.k = 0
      · have hkb : (a.k == 0) = true := beq_iff_eq.2 hk
        have HK := Lib.hid hk
        clear hk
        go_wp2_with (fail)
        go_at_call 31
        refine (null_any a _).mono ?_
        rintro e w3 ⟨rfl, hB3⟩
        clear lhN hNn0 hNn1 hNn2 hNn3 lhA hAc0 hAc1 hAc2 lhR hRc0 hRc1 hRc2 hRf0 hRf1 hRf2 lhE hEc0 hEc1 hEc2
        have hN3 := (hN2.alloc _).below hB3
        have hA3 := (hA2.alloc _).below hB3
        have hR3 := (hR2.alloc _).below hB3
        have hE3 := (hE2.alloc _).below hB3
        have hU3 := (Lies.new w2 ⟨2, 1, emp⟩).below hB3
        have hb3 := (hb2.alloc (Nat.le_trans hb2.size (by simp)) _).trans (hB3.mono (Nat.le_trans hb2.size (by simp)))
        clear hB3 hN2 hA2 hR2 hE2 hb2
        have lhN := hN3.lt
        obtain ⟨hNn0, hNn1, hNn2, hNn3⟩ := hN3.at
        have lhA := hA3.lt
        have hAc0 := hA3.c0
        have hAc1 := hA3.c1
        have hAc2 := hA3.c2
        have lhR := hR3.lt
        have hRc0 := hR3.c0
        have hRc1 := hR3.c1
        have hRc2 := hR3.c2
        have hRf0 := hR3.free 0
        have hRf1 := hR3.free 1
        have hRf2 := hR3.free 2
        have lhE := hE3.lt
        have hEc0 := hE3.c0
        have hEc1 := hE3.c1
        have hEc2 := hE3.c2
        have lhU := hU3.lt
        have hUc0 := hU3.c0
        have hUc1 := hU3.c1
        have hUc2 := hU3.c2
        go_wp2
        exact bodyPost_ret (v := wv (nul, 0)) (two_res rfl rfl (hR3.set3 nul)) rfl ⟨by rw [HT.out, if_neg (by simp), if_neg HNE.out, if_pos (.inl HK.out)], set3 hb3 (by omega) _ _ _⟩
      have hkb : (a.k == 0) = false := beq_eq_false_iff_ne.2 hk
      have HK := Lib.hid hk
      clear hk
      go_wp2_with (fail)
      go_at_call 31
      refine (null_any a _).mono ?_
      rintro e w3 ⟨rfl, hB3⟩
      clear lhN hNn0 hNn1 hNn2 hNn3 lhA hAc0 hAc1 hAc2 lhR hRc0 hRc1 hRc2 hRf0 hRf1 hRf2 lhE hEc0 hEc1 hEc2
      have hN3 := (hN2.alloc _).below hB3
      have hA3 := (hA2.alloc _).below hB3
      have hR3 := (hR2.alloc _).below hB3
      have hE3 := (hE2.alloc _).below hB3
      have hU3 := (Lies.new w2 ⟨2, 1, emp⟩).below hB3
      have hb3 := (hb2.alloc (Nat.le_trans hb2.size (by simp)) _).trans (hB3.mono (Nat.le_trans hb2.size (by simp)))
      clear hB3 hN2 hA2 hR2 hE2 hb2
      have lhN := hN3.lt
      obtain ⟨hNn0, hNn1, hNn2, hNn3⟩ := hN3.at
      have lhA := hA3.lt
      have hAc0 := hA3.c0
      have hAc1 := hA3.c1
      have hAc2 := hA3.c2
      have lhR := hR3.lt
      have hRc0 := hR3.c0
      have hRc1 := hR3.c1
      have hRc2 := hR3.c2
      have hRf0 := hR3.free 0
      have hRf1 := hR3.free 1
      have hRf2 := hR3.free 2
      have lhE := hE3.lt
      have hEc0 := hE3.c0
      have hEc1 := hE3.c1
      have hEc2 := hE3.c2
      have lhU := hU3.lt
      have hUc0 := hU3.c0
      have hUc1 := hU3.c1
      have hUc2 := hU3.c2
      have HK2 := Lib.hid (show ¬ (2 : Int) = 0 by omega)
      go_wp2_with (fail)
      go_at_call 31
      refine (null_any ⟨2, 1, emp⟩ _).mono ?_
      rintro e w4 ⟨rfl, hB4⟩
      clear lhN hNn0 hNn1 hNn2 hNn3 lhA hAc0 hAc1 hAc2 lhR hRc0 hRc1 hRc2 hRf0 hRf1 hRf2 lhE hEc0 hEc1 hEc2 lhU hUc0 hUc1 hUc2
      have hN4 := hN3.below hB4
      have hA4 := hA3.below hB4
      have hR4 := hR3.below hB4
      have hE4 := hE3.below hB4
      have hU4 := hU3.below hB4
      have hb4 := hb3.trans (hB4.mono (Nat.le_trans hb3.size (by simp)))
      clear hB4 hN3 hA3 hR3 hE3 hU3 hb3
      have lhN := hN4.lt
      obtain ⟨hNn0, hNn1, hNn2, hNn3⟩ := hN4.at
      have lhA := hA4.lt
      have hAc0 := hA4.c0
      have hAc1 := hA4.c1
      have hAc2 := hA4.c2
      have lhR := hR4.lt
      have hRc0 := hR4.c0
      have hRc1 := hR4.c1
      have hRc2 := hR4.c2
      have hRf0 := hR4.free 0
      have hRf1 := hR4.free 1
      have hRf2 := hR4.free 2
      have lhE := hE4.lt
      have hEc0 := hE4.c0
      have hEc1 := hE4.c1
      have hEc2 := hE4.c2
      have lhU := hU4.lt
      have hUc0 := hU4.c0
      have hUc1 := hU4.c1
      have hUc2 := hU4.c2
      go_wp2_with (fail)
      go_at_call 30
      refine (truth_any true _).mono ?_
      rintro e w5 ⟨rfl, hB5⟩
      clear lhN hNn0 hNn1 hNn2 hNn3 lhA hAc0 hAc1 hAc2 lhR hRc0 hRc1 hRc2 hRf0 hRf1 hRf2 lhE hEc0 hEc1 hEc2 lhU hUc0 hUc1 hUc2
      have hN5 := hN4.below hB5
      have hA5 := hA4.below hB5
      have hR5 := hR4.below hB5
      have hE5 := hE4.below hB5
      have hU5 := hU4.below hB5
      have hb5 := hb4.trans (hB5.mono (Nat.le_trans hb4.size (by simp)))
      clear hB5 hN4 hA4 hR4 hE4 hU4 hb4
      unfold vv tr
      have lhN := hN5.lt
      obtain ⟨hNn0, hNn1, hNn2, hNn3⟩ := hN5.at
      have lhA := hA5.lt
      have hAc0 := hA5.c0
      have hAc1 := hA5.c1
      have hAc2 := hA5.c2
      have lhR := hR5.lt
      have hRc0 := hR5.c0
      have hRc1 := hR5.c1
      have hRc2 := hR5.c2
      have hRf0 := hR5.free 0
      have hRf1 := hR5.free 1
      have hRf2 := hR5.free 2
      have lhE := hE5.lt
      have hEc0 := hE5.c0
      have hEc1 := hE5.c1
      have hEc2 := hE5.c2
      have lhU := hU5.lt
      have hUc0 := hU5.c0
      have hUc1 := hU5.c1
      have hUc2 := hU5.c2
      go_wp2
      exact bodyPost_ret (v := wv (⟨2, 1, emp⟩, 0)) (two_res rfl rfl (hR5.set3 ⟨2, 1, emp⟩)) rfl ⟨by rw [HT.out, if_neg (by simp), if_neg HNE.out, if_neg (fun h => h.elim HK.out HK2.out)], set3 hb5 (by omega) _ _ _⟩
  have HNE := Lib.hid (show ¬ u = ⟨2, 0, emp⟩ by rintro rfl; exact hu2 rfl)
  clear hgu
  by_cases hk : a.k = 0
  · have hkb : (a.k == 0) = true := beq_iff_eq.2 hk
    have HK := Lib.hid hk
    clear hk
    go_wp2_with (fail)
    go_at_call 31
    refine (null_any a _).mono ?_
    rintro e w3 ⟨rfl, hB3⟩
    clear lhN hNn0 hNn1 hNn2 hNn3 lhA hAc0 hAc1 hAc2 lhR hRc0 hRc1 hRc2 hRf0 hRf1 hRf2 lhE hEc0 hEc1 hEc2
    have hN3 := (hN2.alloc _).below hB3
    have hA3 := (hA2.alloc _).below hB3
    have hR3 := (hR2.alloc _).below hB3
    have hE3 := (hE2.alloc _).below hB3
    have hU3 := (Lies.new w2 u).below hB3
    have hb3 := (hb2.alloc (Nat.le_trans hb2.size (by simp)) _).trans (hB3.mono (Nat.le_trans hb2.size (by simp)))
    clear hB3 hN2 hA2 hR2 hE2 hb2
    have lhN := hN3.lt
    obtain ⟨hNn0, hNn1, hNn2, hNn3⟩ := hN3.at
    have lhA := hA3.lt
    have hAc0 := hA3.c0
    have hAc1 := hA3.c1
    have hAc2 := hA3.c2
    have lhR := hR3.lt
    have hRc0 := hR3.c0
    have hRc1 := hR3.c1
    have hRc2 := hR3.c2
    have hRf0 := hR3.free 0
    have hRf1 := hR3.free 1
    have hRf2 := hR3.free 2
    have lhE := hE3.lt
    have hEc0 := hE3.c0
    have hEc1 := hE3.c1
    have hEc2 := hE3.c2
    have lhU := hU3.lt
    have hUc0 := hU3.c0
    have hUc1 := hU3.c1
    have hUc2 := hU3.c2
    go_wp2
    exact bodyPost_ret (v := wv (nul, 0)) (two_res rfl rfl (hR3.set3 nul)) rfl ⟨by rw [HT.out, if_neg (by simp), if_neg HNE.out, if_pos (.inl HK.out)], set3 hb3 (by omega) _ _ _⟩
  have hkb : (a.k == 0) = false := beq_eq_false_iff_ne.2 hk
  have HK := Lib.hid hk
  clear hk
  go_wp2_with (fail)
  go_at_call 31
  refine (null_any a _).mono ?_
  rintro e w3 ⟨rfl, hB3⟩
  clear lhN hNn0 hNn1 hNn2 hNn3 lhA hAc0 hAc1 hAc2 lhR hRc0 hRc1 hRc2 hRf0 hRf1 hRf2 lhE hEc0 hEc1 hEc2
  have hN3 := (hN2.alloc _).below hB3
  have hA3 := (hA2.alloc _).below hB3
  have hR3 := (hR2.alloc _).below hB3
  have hE3 := (hE2.alloc _).below hB3
  have hU3 := (Lies.new w2 u).below hB3
  have hb3 := (hb2.alloc (Nat.le_trans hb2.size (by simp)) _).trans (hB3.mono (Nat.le_trans hb2.size (by simp)))
  clear hB3 hN2 hA2 hR2 hE2 hb2
  have lhN := hN3.lt
  obtain ⟨hNn0, hNn1, hNn2, hNn3⟩ := hN3.at
  have lhA := hA3.lt
  have hAc0 := hA3.c0
  have hAc1 := hA3.c1
  have hAc2 := hA3.c2
  have lhR := hR3.lt
  have hRc0 := hR3.c0
  have hRc1 := hR3.c1
  have hRc2 := hR3.c2
  have hRf0 := hR3.free 0
  have hRf1 := hR3.free 1
  have hRf2 := hR3.free 2
  have lhE := hE3.lt
  have hEc0 := hE3.c0
  have hEc1 := hE3.c1
  have hEc2 := hE3.c2
  have lhU := hU3.lt
  have hUc0 := hU3.c0
  have hUc1 := hU3.c1
  have hUc2 := hU3.c2
  by_cases hk : u.k = 0
  · have hkb2 : (u.k == 0) = true := beq_iff_eq.2 hk
    have HK2 := Lib.hid hk
    clear hk
    go_wp2_with (fail)
    go_at_call 31
    refine (null_any u _).mono ?_
    rintro e w4 ⟨rfl, hB4⟩
    clear lhN hNn0 hNn1 hNn2 hNn3 lhA hAc0 hAc1 hAc2 lhR hRc0 hRc1 hRc2 hRf0 hRf1 hRf2 lhE hEc0 hEc1 hEc2 lhU hUc0 hUc1 hUc2
    have hN4 := hN3.below hB4
    have hA4 := hA3.below hB4
    have hR4 := hR3.below hB4
    have hE4 := hE3.below hB4
    have hU4 := hU3.below hB4
    have hb4 := hb3.trans (hB4.mono (Nat.le_trans hb3.size (by simp)))
    clear hB4 hN3 hA3 hR3 hE3 hU3 hb3
    have lhN := hN4.lt
    obtain ⟨hNn0, hNn1, hNn2, hNn3⟩ := hN4.at
    have lhA := hA4.lt
    have hAc0 := hA4.c0
    have hAc1 := hA4.c1
    have hAc2 := hA4.c2
    have lhR := hR4.lt
    have hRc0 := hR4.c0
    have hRc1 := hR4.c1
    have hRc2 := hR4.c2
    have hRf0 := hR4.free 0
    have hRf1 := hR4.free 1
    have hRf2 := hR4.free 2
    have lhE := hE4.lt
    have hEc0 := hE4.c0
    have hEc1 := hE4.c1
    have hEc2 := hE4.c2
    have lhU := hU4.lt
    have hUc0 := hU4.c0
    have hUc1 := hU4.c1
    have hUc2 := hU4.c2
    go_wp2
    exact bodyPost_ret (v := wv (nul, 0)) (two_res rfl rfl (hR4.set3 nul)) rfl ⟨by rw [HT.out, if_neg (by simp), if_neg HNE.out, if_pos (.inr HK2.out)], set3 hb4 (by omega) _ _ _⟩
  have hkb2 : (u.k == 0) = false := beq_eq_false_iff_ne.2 hk
  have HK2 := Lib.hid hk
  clear hk
  go_wp2_with (fail)
  go_at_call 31
  refine (null_any u _).mono ?_
  rintro e w4 ⟨rfl, hB4⟩
  clear lhN hNn0 hNn1 hNn2 hNn3 lhA hAc0 hAc1 hAc2 lhR hRc0 hRc1 hRc2 hRf0 hRf1 hRf2 lhE hEc0 hEc1 hEc2 lhU hUc0 hUc1 hUc2
  have hN4 := hN3.below hB4
  have hA4 := hA3.below hB4
  have hR4 := hR3.below hB4
  have hE4 := hE3.below hB4
  have hU4 := hU3.below hB4
  have hb4 := hb3.trans (hB4.mono (Nat.le_trans hb3.size (by simp)))
  clear hB4 hN3 hA3 hR3 hE3 hU3 hb3
  have lhN := hN4.lt
  obtain ⟨hNn0, hNn1, hNn2, hNn3⟩ := hN4.at
  have lhA := hA4.lt
  have hAc0 := hA4.c0
  have hAc1 := hA4.c1
  have hAc2 := hA4.c2
  have lhR := hR4.lt
  have hRc0 := hR4.c0
  have hRc1 := hR4.c1
  have hRc2 := hR4.c2
  have hRf0 := hR4.free 0
  have hRf1 := hR4.free 1
  have hRf2 := hR4.free 2
  have lhE := hE4.lt
  have hEc0 := hE4.c0
  have hEc1 := hE4.c1
  have hEc2 := hE4.c2
  have lhU := hU4.lt
  have hUc0 := hU4.c0
  have hUc1 := hU4.c1
  have hUc2 := hU4.c2
  go_wp2_with (fail)
  go_at_call 30
  refine (truth_any true _).mono ?_
  rintro e w5 ⟨rfl, hB5⟩
  clear lhN hNn0 hNn1 hNn2 hNn3 lhA hAc0 hAc1 hAc2 lhR hRc0 hRc1 hRc2 hRf0 hRf1 hRf2 lhE hEc0 hEc1 hEc2 lhU hUc0 hUc1 hUc2
  have hN5 := hN4.below hB5
  have hA5 := hA4.below hB5
  have hR5 := hR4.below hB5
  have hE5 := hE4.below hB5
  have hU5 := hU4.below hB5
  have hb5 := hb4.trans (hB5.mono (Nat.le_trans hb4.size (by simp)))
  clear hB5 hN4 hA4 hR4 hE4 hU4 hb4
  unfold vv tr
  have lhN := hN5.lt
  obtain ⟨hNn0, hNn1, hNn2, hNn3⟩ := hN5.at
  have lhA := hA5.lt
  have hAc0 := hA5.c0
  have hAc1 := hA5.c1
  have hAc2 := hA5.c2
  have lhR := hR5.lt
  have hRc0 := hR5.c0
  have hRc1 := hR5.c1
  have hRc2 := hR5.c2
  have hRf0 := hR5.free 0
  have hRf1 := hR5.free 1
  have hRf2 := hR5.free 2
  have lhE := hE5.lt
  have hEc0 := hE5.c0
  have hEc1 := hE5.c1
  have hEc2 := hE5.c2
  have lhU := hU5.lt
  have hUc0 := hU5.c0
  have hUc1 := hU5.c1
  have hUc2 := hU5.c2
  go_wp2
  exact bodyPost_ret (v := wv (⟨2, 1, emp⟩, 0)) (two_res rfl rfl (hR5.set3 ⟨2, 1, emp⟩)) rfl ⟨by rw [HT.out, if_neg (by simp), if_neg HNE.out, if_neg (fun h => h.elim HK.out HK2.out)], set3 hb5 (by omega) _ _ _⟩
set_option maxHeartbeats 400000 in
theorem two_5 (a : Vl) (y : X) (ih : WorkC y) (hga : a.k = 2 → a = ⟨2, 0, emp⟩ ∨ a = ⟨2, 1, emp⟩) (hgu : (workX y).1.k = 2 → (workX y).1 = ⟨2, 0, emp⟩ ∨ (workX y).1 = ⟨2, 1, emp⟩) (op : ByteArray) (n : Int) (g c : Nat) (o t : ByteArray) (m : Int) (q fs rs : Value) (w : World) (hq : NodeAt w g 4 o t m q) (hx : IsX w y o t m q) :
    Calls Try.prog 32 #[nd op ⟨#[65, 78, 68]⟩ n (.slice (some ⟨g, 0, none⟩) 2 c), vv a, fs, rs] w fun e w' => e = .returned (wv (two 5 a (workX y))) ∧ Below w.heap.size w w' := by
  by_cases h2 : a.k = 2
  · rcases hga h2 with rfl | rfl
    · exact two_5e y ih hgu op n g c o t m q fs rs w hq hx
    · exact two_5n y ih hgu op n g c o t m q fs rs w hq hx
  · exact two_5o a y ih h2 hgu op n g c o t m q fs rs w hq hx
set_option maxHeartbeats 400000 in
theorem two_6e (y : X) (ih : WorkC y) (hgu : (workX y).1.k = 2 → (workX y).1 = ⟨2, 0, emp⟩ ∨ (workX y).1 = ⟨2, 1, emp⟩) (op : ByteArray) (n : Int) (g c : Nat) (o t : ByteArray) (m : Int) (q fs rs : Value) (w : World) (hq : NodeAt w g 4 o t m q) (hx : IsX w y o t m q) :
    Calls Try.prog 32 #[nd op ⟨#[79, 82]⟩ n (.slice (some ⟨g, 0, none⟩) 2 c), vv ⟨2, 1, emp⟩, fs, rs] w fun e w' => e = .returned (wv (two 6 ⟨2, 1, emp⟩ (workX y))) ∧ Below w.heap.size w w' := by
  obtain ⟨u, hu⟩ : ∃ u, u = (workX y).1 := ⟨_, rfl⟩
  obtain ⟨f, hf⟩ : ∃ f, f = (workX y).2 := ⟨_, rfl⟩
  have hxv : workX y = (u, f) := by rw [hu, hf]
  rw [hxv] at hgu
  rw [hxv]
  have hih : ∀ W, IsX W y o t m q → Calls Try.prog 14 #[nd o t m q, fs, rs] W fun e w' => e = .returned (wv (u, f)) ∧ Below W.heap.size W w' := fun W h => by
    rw [← hxv]; exact ih o t m q fs rs W h
  have HT := Lib.hid (show two 6 ⟨2, 1, emp⟩ (u, f) = (⟨2, 1, emp⟩, 0) by simp [two])
  clear hu hf ih hxv
  unfold nd vv
  go_enter Try.func32, Try.ntmps32
  go_wp2_with (fail)
  go_at_call 30
  refine (truth_any true _).mono ?_
  rintro e w1 ⟨rfl, hB1⟩
  have hN1 := (lay3_box w op ⟨#[79, 82]⟩ n (.slice (some ⟨g, 0, none⟩) 2 c) ⟨2, 1, emp⟩).below hB1
  have hA1 := (lay3_a w op ⟨#[79, 82]⟩ n (.slice (some ⟨g, 0, none⟩) 2 c) ⟨2, 1, emp⟩).below hB1
  have hR1 := (lay3_r w op ⟨#[79, 82]⟩ n (.slice (some ⟨g, 0, none⟩) 2 c) ⟨2, 1, emp⟩).below hB1
  have hb1 := (lay3_below w op ⟨#[79, 82]⟩ n (.slice (some ⟨g, 0, none⟩) 2 c) ⟨2, 1, emp⟩).trans (hB1.mono (by simp; omega))
  clear hB1
  clear hx hq hih hgu
  unfold vv tr
  have lhN := hN1.lt
  obtain ⟨hNn0, hNn1, hNn2, hNn3⟩ := hN1.at
  have lhA := hA1.lt
  have hAc0 := hA1.c0
  have hAc1 := hA1.c1
  have hAc2 := hA1.c2
  have lhR := hR1.lt
  have hRc0 := hR1.c0
  have hRc1 := hR1.c1
  have hRc2 := hR1.c2
  have hRf0 := hR1.free 0
  have hRf1 := hR1.free 1
  have hRf2 := hR1.free 2
  go_wp2
  exact bodyPost_ret (v := wv (⟨2, 1, emp⟩, 0)) (two_res rfl rfl ((hR1.set3 ⟨2, 1, emp⟩).alloc _)) rfl ⟨by rw [HT.out], (set3 hb1 (by omega) _ _ _).alloc (by simpa using hb1.size) _⟩
set_option maxHeartbeats 400000 in
theorem two_6n (y : X) (ih : WorkC y) (hgu : (workX y).1.k = 2 → (workX y).1 = ⟨2, 0, emp⟩ ∨ (workX y).1 = ⟨2, 1, emp⟩) (op : ByteArray) (n : Int) (g c : Nat) (o t : ByteArray) (m : Int) (q fs rs : Value) (w : World) (hq : NodeAt w g 4 o t m q) (hx : IsX w y o t m q) :
    Calls Try.prog 32 #[nd op ⟨#[79, 82]⟩ n (.slice (some ⟨g, 0, none⟩) 2 c), vv ⟨2, 0, emp⟩, fs, rs] w fun e w' => e = .returned (wv (two 6 ⟨2, 0, emp⟩ (workX y))) ∧ Below w.heap.size w w' := by
  obtain ⟨u, hu⟩ : ∃ u, u = (workX y).1 := ⟨_, rfl⟩
  obtain ⟨f, hf⟩ : ∃ f, f = (workX y).2 := ⟨_, rfl⟩
  have hxv : workX y = (u, f) := by rw [hu, hf]
  rw [hxv] at hgu
  rw [hxv]
  have hih : ∀ W, IsX W y o t m q → Calls Try.prog 14 #[nd o t m q, fs, rs] W fun e w' => e = .returned (wv (u, f)) ∧ Below W.heap.size W w' := fun W h => by
    rw [← hxv]; exact ih o t m q fs rs W h
  have HT := Lib.hid (two_6_eq (a := ⟨2, 0, emp⟩) (u := u) (f := f) (by simp) (fun _ => .inl rfl) hgu)
  clear hu hf ih hxv
  unfold nd vv
  go_enter Try.func32, Try.ntmps32
  go_wp2_with (fail)
  go_at_call 30
  refine (truth_any true _).mono ?_
  rintro e w1 ⟨rfl, hB1⟩
  have hN1 := (lay3_box w op ⟨#[79, 82]⟩ n (.slice (some ⟨g, 0, none⟩) 2 c) ⟨2, 0, emp⟩).below hB1
  have hA1 := (lay3_a w op ⟨#[79, 82]⟩ n (.slice (some ⟨g, 0, none⟩) 2 c) ⟨2, 0, emp⟩).below hB1
  have hR1 := (lay3_r w op ⟨#[79, 82]⟩ n (.slice (some ⟨g, 0, none⟩) 2 c) ⟨2, 0, emp⟩).below hB1
  have hb1 := (lay3_below w op ⟨#[79, 82]⟩ n (.slice (some ⟨g, 0, none⟩) 2 c) ⟨2, 0, emp⟩).trans (hB1.mono (by simp; omega))
  clear hB1
  obtain ⟨q0, q1, q2, q3⟩ := hq.below hb1
  have lg := World.block_lt_of_cell? w1 _ q0
  have hx1 := hx.below (hb1.alloc hb1.size (.cells #[.int .i64 2, .int .i64 1, .string ⟨#[]⟩] 38))
  clear hx hq
  unfold vv tr
  have lhN := hN1.lt
  obtain ⟨hNn0, hNn1, hNn2, hNn3⟩ := hN1.at
  have lhA := hA1.lt
  have hAc0 := hA1.c0
  have hAc1 := hA1.c1
  have hAc2 := hA1.c2
  have lhR := hR1.lt
  have hRc0 := hR1.c0
  have hRc1 := hR1.c1
  have hRc2 := hR1.c2
  have hRf0 := hR1.free 0
  have hRf1 := hR1.free 1
  have hRf2 := hR1.free 2
  go_wp2_with (fail)
  go_at_call 14
  refine (hih _ hx1).mono ?_
  rintro e w2 ⟨rfl, hB2⟩
  clear q0 q1 q2 q3 lg hx1 hih lhN hNn0 hNn1 hNn2 hNn3 lhA hAc0 hAc1 hAc2 lhR hRc0 hRc1 hRc2 hRf0 hRf1 hRf2
  have hN2 := (hN1.alloc _).below hB2
  have hA2 := (hA1.alloc _).below hB2
  have hR2 := (hR1.alloc _).below hB2
  have hE2 := (Lies.new w1 ⟨2, 1, emp⟩).below hB2
  have hb2 := (hb1.alloc (Nat.le_trans hb1.size (by simp)) _).trans (hB2.mono (Nat.le_trans hb1.size (by simp)))
  clear hB2 hN1 hA1 hR1 hb1
  unfold wv vv
  have lhN := hN2.lt
  obtain ⟨hNn0, hNn1, hNn2, hNn3⟩ := hN2.at
  have lhA := hA2.lt
  have hAc0 := hA2.c0
  have hAc1 := hA2.c1
  have hAc2 := hA2.c2
  have lhR := hR2.lt
  have hRc0 := hR2.c0
  have hRc1 := hR2.c1
  have hRc2 := hR2.c2
  have hRf0 := hR2.free 0
  have hRf1 := hR2.free 1
  have hRf2 := hR2.free 2
  have lhE := hE2.lt
  have hEc0 := hE2.c0
  have hEc1 := hE2.c1
  have hEc2 := hE2.c2
  by_cases hf0 : f ≠ 0
  · have hfb : (f != 0) = true := bne_iff_ne.2 hf0
    clear hgu
    go_wp2
    exact bodyPost_ret (v := wv (nul, f)) (two_res rfl rfl ((hR2.set3 nul).alloc _)) rfl ⟨by rw [HT.out, if_pos hf0], (set3 hb2 (by omega) _ _ _).alloc (by simpa using hb2.size) _⟩
  obtain rfl : f = 0 := by omega
  clear hf0
  by_cases hu2 : u.k = 2
  · rcases hgu hu2 with rfl | rfl
    · clear hgu hu2
      have HNE := Lib.hid (show ¬ (⟨2, 0, emp⟩ : Vl) = ⟨2, 1, emp⟩ by simp)
      have HK := Lib.hid (show ¬ (2 : Int) = 0 by omega)
      go_wp2_with (fail)
      go_at_call 31
      refine (null_any ⟨2, 0, emp⟩ _).mono ?_
      rintro e w3 ⟨rfl, hB3⟩
      clear lhN hNn0 hNn1 hNn2 hNn3 lhA hAc0 hAc1 hAc2 lhR hRc0 hRc1 hRc2 hRf0 hRf1 hRf2 lhE hEc0 hEc1 hEc2
      have hN3 := (hN2.alloc _).below hB3
      have hA3 := (hA2.alloc _).below hB3
      have hR3 := (hR2.alloc _).below hB3
      have hE3 := (hE2.alloc _).below hB3
      have hU3 := (Lies.new w2 ⟨2, 0, emp⟩).below hB3
      have hb3 := (hb2.alloc (Nat.le_trans hb2.size (by simp)) _).trans (hB3.mono (Nat.le_trans hb2.size (by simp)))
      clear hB3 hN2 hA2 hR2 hE2 hb2
      have lhN := hN3.lt
      obtain ⟨hNn0, hNn1, hNn2, hNn3⟩ := hN3.at
      have lhA := hA3.lt
      have hAc0 := hA3.c0
      have hAc1 := hA3.c1
      have hAc2 := hA3.c2
      have lhR := hR3.lt
      have hRc0 := hR3.c0
      have hRc1 := hR3.c1
      have hRc2 := hR3.c2
      have hRf0 := hR3.free 0
      have hRf1 := hR3.free 1
      have hRf2 := hR3.free 2
      have lhE := hE3.lt
      have hEc0 := hE3.c0
      have hEc1 := hE3.c1
      have hEc2 := hE3.c2
      have lhU := hU3.lt
      have hUc0 := hU3.c0
      have hUc1 := hU3.c1
      have hUc2 := hU3.c2
      have HK2 := Lib.hid (show ¬ (2 : Int) = 0 by omega)
      go_wp2_with (fail)
      go_at_call 31
      refine (null_any ⟨2, 0, emp⟩ _).mono ?_
      rintro e w4 ⟨rfl, hB4⟩
      clear lhN hNn0 hNn1 hNn2 hNn3 lhA hAc0 hAc1 hAc2 lhR hRc0 hRc1 hRc2 hRf0 hRf1 hRf2 lhE hEc0 hEc1 hEc2 lhU hUc0 hUc1 hUc2
      have hN4 := hN3.below hB4
      have hA4 := hA3.below hB4
      have hR4 := hR3.below hB4
      have hE4 := hE3.below hB4
      have hU4 := hU3.below hB4
      have hb4 := hb3.trans (hB4.mono (Nat.le_trans hb3.size (by simp)))
      clear hB4 hN3 hA3 hR3 hE3 hU3 hb3
      have lhN := hN4.lt
      obtain ⟨hNn0, hNn1, hNn2, hNn3⟩ := hN4.at
      have lhA := hA4.lt
      have hAc0 := hA4.c0
      have hAc1 := hA4.c1
      have hAc2 := hA4.c2
      have lhR := hR4.lt
      have hRc0 := hR4.c0
      have hRc1 := hR4.c1
      have hRc2 := hR4.c2
      have hRf0 := hR4.free 0
      have hRf1 := hR4.free 1
      have hRf2 := hR4.free 2
      have lhE := hE4.lt
      have hEc0 := hE4.c0
      have hEc1 := hE4.c1
      have hEc2 := hE4.c2
      have lhU := hU4.lt
      have hUc0 := hU4.c0
      have hUc1 := hU4.c1
      have hUc2 := hU4.c2
      go_wp2_with (fail)
      go_at_call 30
      refine (truth_any false _).mono ?_
      rintro e w5 ⟨rfl, hB5⟩
      clear lhN hNn0 hNn1 hNn2 hNn3 lhA hAc0 hAc1 hAc2 lhR hRc0 hRc1 hRc2 hRf0 hRf1 hRf2 lhE hEc0 hEc1 hEc2 lhU hUc0 hUc1 hUc2
      have hN5 := hN4.below hB5
      have hA5 := hA4.below hB5
      have hR5 := hR4.below hB5
      have hE5 := hE4.below hB5
      have hU5 := hU4.below hB5
      have hb5 := hb4.trans (hB5.mono (Nat.le_trans hb4.size (by simp)))
      clear hB5 hN4 hA4 hR4 hE4 hU4 hb4
      unfold vv tr
      have lhN := hN5.lt
      obtain ⟨hNn0, hNn1, hNn2, hNn3⟩ := hN5.at
      have lhA := hA5.lt
      have hAc0 := hA5.c0
      have hAc1 := hA5.c1
      have hAc2 := hA5.c2
      have lhR := hR5.lt
      have hRc0 := hR5.c0
      have hRc1 := hR5.c1
      have hRc2 := hR5.c2
      have hRf0 := hR5.free 0
      have hRf1 := hR5.free 1
      have hRf2 := hR5.free 2
      have lhE := hE5.lt
      have hEc0 := hE5.c0
      have hEc1 := hE5.c1
      have hEc2 := hE5.c2
      have lhU := hU5.lt
      have hUc0 := hU5.c0
      have hUc1 := hU5.c1
      have hUc2 := hU5.c2
      go_wp2
      exact bodyPost_ret (v := wv (⟨2, 0, emp⟩, 0)) (two_res rfl rfl (hR5.set3 ⟨2, 0, emp⟩)) rfl ⟨by rw [HT.out, if_neg (by simp), if_neg HNE.out, if_neg (fun h => h.elim HK.out HK2.out)], set3 hb5 (by omega) _ _ _⟩
    · clear hgu hu2
      go_wp2
      exact bodyPost_ret (v := wv (⟨2, 1, emp⟩, 0)) (two_res rfl rfl ((hR2.set3 ⟨2, 1, emp⟩).alloc _)) rfl ⟨by rw [HT.out]; simp, (set3 hb2 (by omega) _ _ _).alloc (by simpa using hb2.size) _⟩
  have HNE := Lib.hid (show ¬ u = ⟨2, 1, emp⟩ by rintro rfl; exact hu2 rfl)
  clear hgu
  have HK := Lib.hid (show ¬ (2 : Int) = 0 by omega)
  go_wp2_with (fail)
  go_at_call 31
  refine (null_any ⟨2, 0, emp⟩ _).mono ?_
  rintro e w3 ⟨rfl, hB3⟩
  clear lhN hNn0 hNn1 hNn2 hNn3 lhA hAc0 hAc1 hAc2 lhR hRc0 hRc1 hRc2 hRf0 hRf1 hRf2 lhE hEc0 hEc1 hEc2
  have hN3 := (hN2.alloc _).below hB3
  have hA3 := (hA2.alloc _).below hB3
  have hR3 := (hR2.alloc _).below hB3
  have hE3 := (hE2.alloc _).below hB3
  have hU3 := (Lies.new w2 u).below hB3
  have hb3 := (hb2.alloc (Nat.le_trans hb2.size (by simp)) _).trans (hB3.mono (Nat.le_trans hb2.size (by simp)))
  clear hB3 hN2 hA2 hR2 hE2 hb2
  have lhN := hN3.lt
  obtain ⟨hNn0, hNn1, hNn2, hNn3⟩ := hN3.at
  have lhA := hA3.lt
  have hAc0 := hA3.c0
  have hAc1 := hA3.c1
  have hAc2 := hA3.c2
  have lhR := hR3.lt
  have hRc0 := hR3.c0
  have hRc1 := hR3.c1
  have hRc2 := hR3.c2
  have hRf0 := hR3.free 0
  have hRf1 := hR3.free 1
  have hRf2 := hR3.free 2
  have lhE := hE3.lt
  have hEc0 := hE3.c0
  have hEc1 := hE3.c1
  have hEc2 := hE3.c2
  have lhU := hU3.lt
  have hUc0 := hU3.c0
  have hUc1 := hU3.c1
  have hUc2 := hU3.c2
  by_cases hk : u.k = 0
  · have hkb2 : (u.k == 0) = true := beq_iff_eq.2 hk
    have HK2 := Lib.hid hk
    clear hk
    go_wp2_with (fail)
    go_at_call 31
    refine (null_any u _).mono ?_
    rintro e w4 ⟨rfl, hB4⟩
    clear lhN hNn0 hNn1 hNn2 hNn3 lhA hAc0 hAc1 hAc2 lhR hRc0 hRc1 hRc2 hRf0 hRf1 hRf2 lhE hEc0 hEc1 hEc2 lhU hUc0 hUc1 hUc2
    have hN4 := hN3.below hB4
    have hA4 := hA3.below hB4
    have hR4 := hR3.below hB4
    have hE4 := hE3.below hB4
    have hU4 := hU3.below hB4
    have hb4 := hb3.trans (hB4.mono (Nat.le_trans hb3.size (by simp)))
    clear hB4 hN3 hA3 hR3 hE3 hU3 hb3
    have lhN := hN4.lt
    obtain ⟨hNn0, hNn1, hNn2, hNn3⟩ := hN4.at
    have lhA := hA4.lt
    have hAc0 := hA4.c0
    have hAc1 := hA4.c1
    have hAc2 := hA4.c2
    have lhR := hR4.lt
    have hRc0 := hR4.c0
    have hRc1 := hR4.c1
    have hRc2 := hR4.c2
    have hRf0 := hR4.free 0
    have hRf1 := hR4.free 1
    have hRf2 := hR4.free 2
    have lhE := hE4.lt
    have hEc0 := hE4.c0
    have hEc1 := hE4.c1
    have hEc2 := hE4.c2
    have lhU := hU4.lt
    have hUc0 := hU4.c0
    have hUc1 := hU4.c1
    have hUc2 := hU4.c2
    go_wp2
    exact bodyPost_ret (v := wv (nul, 0)) (two_res rfl rfl (hR4.set3 nul)) rfl ⟨by rw [HT.out, if_neg (by simp), if_neg HNE.out, if_pos (.inr HK2.out)], set3 hb4 (by omega) _ _ _⟩
  have hkb2 : (u.k == 0) = false := beq_eq_false_iff_ne.2 hk
  have HK2 := Lib.hid hk
  clear hk
  go_wp2_with (fail)
  go_at_call 31
  refine (null_any u _).mono ?_
  rintro e w4 ⟨rfl, hB4⟩
  clear lhN hNn0 hNn1 hNn2 hNn3 lhA hAc0 hAc1 hAc2 lhR hRc0 hRc1 hRc2 hRf0 hRf1 hRf2 lhE hEc0 hEc1 hEc2 lhU hUc0 hUc1 hUc2
  have hN4 := hN3.below hB4
  have hA4 := hA3.below hB4
  have hR4 := hR3.below hB4
  have hE4 := hE3.below hB4
  have hU4 := hU3.below hB4
  have hb4 := hb3.trans (hB4.mono (Nat.le_trans hb3.size (by simp)))
  clear hB4 hN3 hA3 hR3 hE3 hU3 hb3
  have lhN := hN4.lt
  obtain ⟨hNn0, hNn1, hNn2, hNn3⟩ := hN4.at
  have lhA := hA4.lt
  have hAc0 := hA4.c0
  have hAc1 := hA4.c1
  have hAc2 := hA4.c2
  have lhR := hR4.lt
  have hRc0 := hR4.c0
  have hRc1 := hR4.c1
  have hRc2 := hR4.c2
  have hRf0 := hR4.free 0
  have hRf1 := hR4.free 1
  have hRf2 := hR4.free 2
  have lhE := hE4.lt
  have hEc0 := hE4.c0
  have hEc1 := hE4.c1
  have hEc2 := hE4.c2
  have lhU := hU4.lt
  have hUc0 := hU4.c0
  have hUc1 := hU4.c1
  have hUc2 := hU4.c2
  go_wp2_with (fail)
  go_at_call 30
  refine (truth_any false _).mono ?_
  rintro e w5 ⟨rfl, hB5⟩
  clear lhN hNn0 hNn1 hNn2 hNn3 lhA hAc0 hAc1 hAc2 lhR hRc0 hRc1 hRc2 hRf0 hRf1 hRf2 lhE hEc0 hEc1 hEc2 lhU hUc0 hUc1 hUc2
  have hN5 := hN4.below hB5
  have hA5 := hA4.below hB5
  have hR5 := hR4.below hB5
  have hE5 := hE4.below hB5
  have hU5 := hU4.below hB5
  have hb5 := hb4.trans (hB5.mono (Nat.le_trans hb4.size (by simp)))
  clear hB5 hN4 hA4 hR4 hE4 hU4 hb4
  unfold vv tr
  have lhN := hN5.lt
  obtain ⟨hNn0, hNn1, hNn2, hNn3⟩ := hN5.at
  have lhA := hA5.lt
  have hAc0 := hA5.c0
  have hAc1 := hA5.c1
  have hAc2 := hA5.c2
  have lhR := hR5.lt
  have hRc0 := hR5.c0
  have hRc1 := hR5.c1
  have hRc2 := hR5.c2
  have hRf0 := hR5.free 0
  have hRf1 := hR5.free 1
  have hRf2 := hR5.free 2
  have lhE := hE5.lt
  have hEc0 := hE5.c0
  have hEc1 := hE5.c1
  have hEc2 := hE5.c2
  have lhU := hU5.lt
  have hUc0 := hU5.c0
  have hUc1 := hU5.c1
  have hUc2 := hU5.c2
  go_wp2
  exact bodyPost_ret (v := wv (⟨2, 0, emp⟩, 0)) (two_res rfl rfl (hR5.set3 ⟨2, 0, emp⟩)) rfl ⟨by rw [HT.out, if_neg (by simp), if_neg HNE.out, if_neg (fun h => h.elim HK.out HK2.out)], set3 hb5 (by omega) _ _ _⟩
set_option maxHeartbeats 400000 in
theorem two_6o (a : Vl) (y : X) (ih : WorkC y) (hna : ¬ a.k = 2) (hgu : (workX y).1.k = 2 → (workX y).1 = ⟨2, 0, emp⟩ ∨ (workX y).1 = ⟨2, 1, emp⟩) (op : ByteArray) (n : Int) (g c : Nat) (o t : ByteArray) (m : Int) (q fs rs : Value) (w : World) (hq : NodeAt w g 4 o t m q) (hx : IsX w y o t m q) :
    Calls Try.prog 32 #[nd op ⟨#[79, 82]⟩ n (.slice (some ⟨g, 0, none⟩) 2 c), vv a, fs, rs] w fun e w' => e = .returned (wv (two 6 a (workX y))) ∧ Below w.heap.size w w' := by
  obtain ⟨u, hu⟩ : ∃ u, u = (workX y).1 := ⟨_, rfl⟩
  obtain ⟨f, hf⟩ : ∃ f, f = (workX y).2 := ⟨_, rfl⟩
  have hxv : workX y = (u, f) := by rw [hu, hf]
  rw [hxv] at hgu
  rw [hxv]
  have hih : ∀ W, IsX W y o t m q → Calls Try.prog 14 #[nd o t m q, fs, rs] W fun e w' => e = .returned (wv (u, f)) ∧ Below W.heap.size W w' := fun W h => by
    rw [← hxv]; exact ih o t m q fs rs W h
  have HT := Lib.hid (two_6_eq (a := a) (u := u) (f := f) (by rintro rfl; exact hna rfl) (fun h => absurd h hna) hgu)
  clear hu hf ih hxv
  unfold nd vv
  go_enter Try.func32, Try.ntmps32
  go_wp2_with (fail)
  go_at_call 30
  refine (truth_any true _).mono ?_
  rintro e w1 ⟨rfl, hB1⟩
  have hN1 := (lay3_box w op ⟨#[79, 82]⟩ n (.slice (some ⟨g, 0, none⟩) 2 c) a).below hB1
  have hA1 := (lay3_a w op ⟨#[79, 82]⟩ n (.slice (some ⟨g, 0, none⟩) 2 c) a).below hB1
  have hR1 := (lay3_r w op ⟨#[79, 82]⟩ n (.slice (some ⟨g, 0, none⟩) 2 c) a).below hB1
  have hb1 := (lay3_below w op ⟨#[79, 82]⟩ n (.slice (some ⟨g, 0, none⟩) 2 c) a).trans (hB1.mono (by simp; omega))
  clear hB1
  obtain ⟨q0, q1, q2, q3⟩ := hq.below hb1
  have lg := World.block_lt_of_cell? w1 _ q0
  have hx1 := hx.below (hb1.alloc hb1.size (.cells #[.int .i64 2, .int .i64 1, .string ⟨#[]⟩] 38))
  clear hx hq
  unfold vv tr
  have lhN := hN1.lt
  obtain ⟨hNn0, hNn1, hNn2, hNn3⟩ := hN1.at
  have lhA := hA1.lt
  have hAc0 := hA1.c0
  have hAc1 := hA1.c1
  have hAc2 := hA1.c2
  have lhR := hR1.lt
  have hRc0 := hR1.c0
  have hRc1 := hR1.c1
  have hRc2 := hR1.c2
  have hRf0 := hR1.free 0
  have hRf1 := hR1.free 1
  have hRf2 := hR1.free 2
  go_wp2_with (fail)
  go_at_call 14
  refine (hih _ hx1).mono ?_
  rintro e w2 ⟨rfl, hB2⟩
  clear q0 q1 q2 q3 lg hx1 hih lhN hNn0 hNn1 hNn2 hNn3 lhA hAc0 hAc1 hAc2 lhR hRc0 hRc1 hRc2 hRf0 hRf1 hRf2
  have hN2 := (hN1.alloc _).below hB2
  have hA2 := (hA1.alloc _).below hB2
  have hR2 := (hR1.alloc _).below hB2
  have hE2 := (Lies.new w1 ⟨2, 1, emp⟩).below hB2
  have hb2 := (hb1.alloc (Nat.le_trans hb1.size (by simp)) _).trans (hB2.mono (Nat.le_trans hb1.size (by simp)))
  clear hB2 hN1 hA1 hR1 hb1
  unfold wv vv
  have lhN := hN2.lt
  obtain ⟨hNn0, hNn1, hNn2, hNn3⟩ := hN2.at
  have lhA := hA2.lt
  have hAc0 := hA2.c0
  have hAc1 := hA2.c1
  have hAc2 := hA2.c2
  have lhR := hR2.lt
  have hRc0 := hR2.c0
  have hRc1 := hR2.c1
  have hRc2 := hR2.c2
  have hRf0 := hR2.free 0
  have hRf1 := hR2.free 1
  have hRf2 := hR2.free 2
  have lhE := hE2.lt
  have hEc0 := hE2.c0
  have hEc1 := hE2.c1
  have hEc2 := hE2.c2
  by_cases hf0 : f ≠ 0
  · have hfb : (f != 0) = true := bne_iff_ne.2 hf0
    clear hgu
    go_wp2
    exact bodyPost_ret (v := wv (nul, f)) (two_res rfl rfl ((hR2.set3 nul).alloc _)) rfl ⟨by rw [HT.out, if_pos hf0], (set3 hb2 (by omega) _ _ _).alloc (by simpa using hb2.size) _⟩
  obtain rfl : f = 0 := by omega
  clear hf0
  by_cases hu2 : u.k = 2
  · rcases hgu hu2 with rfl | rfl
    · clear hgu hu2
      have HNE := Lib.hid (show ¬ (⟨2, 0, emp⟩ : Vl) = ⟨2, 1, emp⟩ by simp)
      by_cases hk : a.k = 0
      · have hkb : (a.k == 0) = true := beq_iff_eq.2 hk
        have HK := Lib.hid hk
        clear hk
        go_wp2_with (fail)
        go_at_call 31
        refine (null_any a _).mono ?_
        rintro e w3 ⟨rfl, hB3⟩
        clear lhN hNn0 hNn1 hNn2 hNn3 lhA hAc0 hAc1 hAc2 lhR hRc0 hRc1 hRc2 hRf0 hRf1 hRf2 lhE hEc0 hEc1 hEc2
        have hN3 := (hN2.alloc _).below hB3
        have hA3 := (hA2.alloc _).below hB3
        have hR3 := (hR2.alloc _).below hB3
        have hE3 := (hE2.alloc _).below hB3
        have hU3 := (Lies.new w2 ⟨2, 0, emp⟩).below hB3
        have hb3 := (hb2.alloc (Nat.le_trans hb2.size (by simp)) _).trans (hB3.mono (Nat.le_trans hb2.size (by simp)))
        clear hB3 hN2 hA2 hR2 hE2 hb2
        have lhN := hN3.lt
        obtain ⟨hNn0, hNn1, hNn2, hNn3⟩ := hN3.at
        have lhA := hA3.lt
        have hAc0 := hA3.c0
        have hAc1 := hA3.c1
        have hAc2 := hA3.c2
        have lhR := hR3.lt
        have hRc0 := hR3.c0
        have hRc1 := hR3.c1
        have hRc2 := hR3.c2
        have hRf0 := hR3.free 0
        have hRf1 := hR3.free 1
        have hRf2 := hR3.free 2
        have lhE := hE3.lt
        have hEc0 := hE3.c0
        have hEc1 := hE3.c1
        have hEc2 := hE3.c2
        have lhU := hU3.lt
        have hUc0 := hU3.c0
        have hUc1 := hU3.c1
        have hUc2 := hU3.c2
        go_wp2
        exact bodyPost_ret (v := wv (nul, 0)) (two_res rfl rfl (hR3.set3 nul)) rfl ⟨by rw [HT.out, if_neg (by simp), if_neg HNE.out, if_pos (.inl HK.out)], set3 hb3 (by omega) _ _ _⟩
      have hkb : (a.k == 0) = false := beq_eq_false_iff_ne.2 hk
      have HK := Lib.hid hk
      clear hk
      go_wp2_with (fail)
      go_at_call 31
      refine (null_any a _).mono ?_
      rintro e w3 ⟨rfl, hB3⟩
      clear lhN hNn0 hNn1 hNn2 hNn3 lhA hAc0 hAc1 hAc2 lhR hRc0 hRc1 hRc2 hRf0 hRf1 hRf2 lhE hEc0 hEc1 hEc2
      have hN3 := (hN2.alloc _).below hB3
      have hA3 := (hA2.alloc _).below hB3
      have hR3 := (hR2.alloc _).below hB3
      have hE3 := (hE2.alloc _).below hB3
      have hU3 := (Lies.new w2 ⟨2, 0, emp⟩).below hB3
      have hb3 := (hb2.alloc (Nat.le_trans hb2.size (by simp)) _).trans (hB3.mono (Nat.le_trans hb2.size (by simp)))
      clear hB3 hN2 hA2 hR2 hE2 hb2
      have lhN := hN3.lt
      obtain ⟨hNn0, hNn1, hNn2, hNn3⟩ := hN3.at
      have lhA := hA3.lt
      have hAc0 := hA3.c0
      have hAc1 := hA3.c1
      have hAc2 := hA3.c2
      have lhR := hR3.lt
      have hRc0 := hR3.c0
      have hRc1 := hR3.c1
      have hRc2 := hR3.c2
      have hRf0 := hR3.free 0
      have hRf1 := hR3.free 1
      have hRf2 := hR3.free 2
      have lhE := hE3.lt
      have hEc0 := hE3.c0
      have hEc1 := hE3.c1
      have hEc2 := hE3.c2
      have lhU := hU3.lt
      have hUc0 := hU3.c0
      have hUc1 := hU3.c1
      have hUc2 := hU3.c2
      have HK2 := Lib.hid (show ¬ (2 : Int) = 0 by omega)
      go_wp2_with (fail)
      go_at_call 31
      refine (null_any ⟨2, 0, emp⟩ _).mono ?_
      rintro e w4 ⟨rfl, hB4⟩
      clear lhN hNn0 hNn1 hNn2 hNn3 lhA hAc0 hAc1 hAc2 lhR hRc0 hRc1 hRc2 hRf0 hRf1 hRf2 lhE hEc0 hEc1 hEc2 lhU hUc0 hUc1 hUc2
      have hN4 := hN3.below hB4
      have hA4 := hA3.below hB4
      have hR4 := hR3.below hB4
      have hE4 := hE3.below hB4
      have hU4 := hU3.below hB4
      have hb4 := hb3.trans (hB4.mono (Nat.le_trans hb3.size (by simp)))
      clear hB4 hN3 hA3 hR3 hE3 hU3 hb3
      have lhN := hN4.lt
      obtain ⟨hNn0, hNn1, hNn2, hNn3⟩ := hN4.at
      have lhA := hA4.lt
      have hAc0 := hA4.c0
      have hAc1 := hA4.c1
      have hAc2 := hA4.c2
      have lhR := hR4.lt
      have hRc0 := hR4.c0
      have hRc1 := hR4.c1
      have hRc2 := hR4.c2
      have hRf0 := hR4.free 0
      have hRf1 := hR4.free 1
      have hRf2 := hR4.free 2
      have lhE := hE4.lt
      have hEc0 := hE4.c0
      have hEc1 := hE4.c1
      have hEc2 := hE4.c2
      have lhU := hU4.lt
      have hUc0 := hU4.c0
      have hUc1 := hU4.c1
      have hUc2 := hU4.c2
      go_wp2_with (fail)
      go_at_call 30
      refine (truth_any false _).mono ?_
      rintro e w5 ⟨rfl, hB5⟩
      clear lhN hNn0 hNn1 hNn2 hNn3 lhA hAc0 hAc1 hAc2 lhR hRc0 hRc1 hRc2 hRf0 hRf1 hRf2 lhE hEc0 hEc1 hEc2 lhU hUc0 hUc1 hUc2
      have hN5 := hN4.below hB5
      have hA5 := hA4.below hB5
      have hR5 := hR4.below hB5
      have hE5 := hE4.below hB5
      have hU5 := hU4.below hB5
      have hb5 := hb4.trans (hB5.mono (Nat.le_trans hb4.size (by simp)))
      clear hB5 hN4 hA4 hR4 hE4 hU4 hb4
      unfold vv tr
      have lhN := hN5.lt
      obtain ⟨hNn0, hNn1, hNn2, hNn3⟩ := hN5.at
      have lhA := hA5.lt
      have hAc0 := hA5.c0
      have hAc1 := hA5.c1
      have hAc2 := hA5.c2
      have lhR := hR5.lt
      have hRc0 := hR5.c0
      have hRc1 := hR5.c1
      have hRc2 := hR5.c2
      have hRf0 := hR5.free 0
      have hRf1 := hR5.free 1
      have hRf2 := hR5.free 2
      have lhE := hE5.lt
      have hEc0 := hE5.c0
      have hEc1 := hE5.c1
      have hEc2 := hE5.c2
      have lhU := hU5.lt
      have hUc0 := hU5.c0
      have hUc1 := hU5.c1
      have hUc2 := hU5.c2
      go_wp2
      exact bodyPost_ret (v := wv (⟨2, 0, emp⟩, 0)) (two_res rfl rfl (hR5.set3 ⟨2, 0, emp⟩)) rfl ⟨by rw [HT.out, if_neg (by simp), if_neg HNE.out, if_neg (fun h => h.elim HK.out HK2.out)], set3 hb5 (by omega) _ _ _⟩
    · clear hgu hu2
      go_wp2
      exact bodyPost_ret (v := wv (⟨2, 1, emp⟩, 0)) (two_res rfl rfl ((hR2.set3 ⟨2, 1, emp⟩).alloc _)) rfl ⟨by rw [HT.out]; simp, (set3 hb2 (by omega) _ _ _).alloc (by simpa using hb2.size) _⟩
  have HNE := Lib.hid (show ¬ u = ⟨2, 1, emp⟩ by rintro rfl; exact hu2 rfl)
  clear hgu
  by_cases hk : a.k = 0
  · have hkb : (a.k == 0) = true := beq_iff_eq.2 hk
    have HK := Lib.hid hk
    clear hk
    go_wp2_with (fail)
    go_at_call 31
    refine (null_any a _).mono ?_
    rintro e w3 ⟨rfl, hB3⟩
    clear lhN hNn0 hNn1 hNn2 hNn3 lhA hAc0 hAc1 hAc2 lhR hRc0 hRc1 hRc2 hRf0 hRf1 hRf2 lhE hEc0 hEc1 hEc2
    have hN3 := (hN2.alloc _).below hB3
    have hA3 := (hA2.alloc _).below hB3
    have hR3 := (hR2.alloc _).below hB3
    have hE3 := (hE2.alloc _).below hB3
    have hU3 := (Lies.new w2 u).below hB3
    have hb3 := (hb2.alloc (Nat.le_trans hb2.size (by simp)) _).trans (hB3.mono (Nat.le_trans hb2.size (by simp)))
    clear hB3 hN2 hA2 hR2 hE2 hb2
    have lhN := hN3.lt
    obtain ⟨hNn0, hNn1, hNn2, hNn3⟩ := hN3.at
    have lhA := hA3.lt
    have hAc0 := hA3.c0
    have hAc1 := hA3.c1
    have hAc2 := hA3.c2
    have lhR := hR3.lt
    have hRc0 := hR3.c0
    have hRc1 := hR3.c1
    have hRc2 := hR3.c2
    have hRf0 := hR3.free 0
    have hRf1 := hR3.free 1
    have hRf2 := hR3.free 2
    have lhE := hE3.lt
    have hEc0 := hE3.c0
    have hEc1 := hE3.c1
    have hEc2 := hE3.c2
    have lhU := hU3.lt
    have hUc0 := hU3.c0
    have hUc1 := hU3.c1
    have hUc2 := hU3.c2
    go_wp2
    exact bodyPost_ret (v := wv (nul, 0)) (two_res rfl rfl (hR3.set3 nul)) rfl ⟨by rw [HT.out, if_neg (by simp), if_neg HNE.out, if_pos (.inl HK.out)], set3 hb3 (by omega) _ _ _⟩
  have hkb : (a.k == 0) = false := beq_eq_false_iff_ne.2 hk
  have HK := Lib.hid hk
  clear hk
  go_wp2_with (fail)
  go_at_call 31
  refine (null_any a _).mono ?_
  rintro e w3 ⟨rfl, hB3⟩
  clear lhN hNn0 hNn1 hNn2 hNn3 lhA hAc0 hAc1 hAc2 lhR hRc0 hRc1 hRc2 hRf0 hRf1 hRf2 lhE hEc0 hEc1 hEc2
  have hN3 := (hN2.alloc _).below hB3
  have hA3 := (hA2.alloc _).below hB3
  have hR3 := (hR2.alloc _).below hB3
  have hE3 := (hE2.alloc _).below hB3
  have hU3 := (Lies.new w2 u).below hB3
  have hb3 := (hb2.alloc (Nat.le_trans hb2.size (by simp)) _).trans (hB3.mono (Nat.le_trans hb2.size (by simp)))
  clear hB3 hN2 hA2 hR2 hE2 hb2
  have lhN := hN3.lt
  obtain ⟨hNn0, hNn1, hNn2, hNn3⟩ := hN3.at
  have lhA := hA3.lt
  have hAc0 := hA3.c0
  have hAc1 := hA3.c1
  have hAc2 := hA3.c2
  have lhR := hR3.lt
  have hRc0 := hR3.c0
  have hRc1 := hR3.c1
  have hRc2 := hR3.c2
  have hRf0 := hR3.free 0
  have hRf1 := hR3.free 1
  have hRf2 := hR3.free 2
  have lhE := hE3.lt
  have hEc0 := hE3.c0
  have hEc1 := hE3.c1
  have hEc2 := hE3.c2
  have lhU := hU3.lt
  have hUc0 := hU3.c0
  have hUc1 := hU3.c1
  have hUc2 := hU3.c2
  by_cases hk : u.k = 0
  · have hkb2 : (u.k == 0) = true := beq_iff_eq.2 hk
    have HK2 := Lib.hid hk
    clear hk
    go_wp2_with (fail)
    go_at_call 31
    refine (null_any u _).mono ?_
    rintro e w4 ⟨rfl, hB4⟩
    clear lhN hNn0 hNn1 hNn2 hNn3 lhA hAc0 hAc1 hAc2 lhR hRc0 hRc1 hRc2 hRf0 hRf1 hRf2 lhE hEc0 hEc1 hEc2 lhU hUc0 hUc1 hUc2
    have hN4 := hN3.below hB4
    have hA4 := hA3.below hB4
    have hR4 := hR3.below hB4
    have hE4 := hE3.below hB4
    have hU4 := hU3.below hB4
    have hb4 := hb3.trans (hB4.mono (Nat.le_trans hb3.size (by simp)))
    clear hB4 hN3 hA3 hR3 hE3 hU3 hb3
    have lhN := hN4.lt
    obtain ⟨hNn0, hNn1, hNn2, hNn3⟩ := hN4.at
    have lhA := hA4.lt
    have hAc0 := hA4.c0
    have hAc1 := hA4.c1
    have hAc2 := hA4.c2
    have lhR := hR4.lt
    have hRc0 := hR4.c0
    have hRc1 := hR4.c1
    have hRc2 := hR4.c2
    have hRf0 := hR4.free 0
    have hRf1 := hR4.free 1
    have hRf2 := hR4.free 2
    have lhE := hE4.lt
    have hEc0 := hE4.c0
    have hEc1 := hE4.c1
    have hEc2 := hE4.c2
    have lhU := hU4.lt
    have hUc0 := hU4.c0
    have hUc1 := hU4.c1
    have hUc2 := hU4.c2
    go_wp2
    exact bodyPost_ret (v := wv (nul, 0)) (two_res rfl rfl (hR4.set3 nul)) rfl ⟨by rw [HT.out, if_neg (by simp), if_neg HNE.out, if_pos (.inr HK2.out)], set3 hb4 (by omega) _ _ _⟩
  have hkb2 : (u.k == 0) = false := beq_eq_false_iff_ne.2 hk
  have HK2 := Lib.hid hk
  clear hk
  go_wp2_with (fail)
  go_at_call 31
  refine (null_any u _).mono ?_
  rintro e w4 ⟨rfl, hB4⟩
  clear lhN hNn0 hNn1 hNn2 hNn3 lhA hAc0 hAc1 hAc2 lhR hRc0 hRc1 hRc2 hRf0 hRf1 hRf2 lhE hEc0 hEc1 hEc2 lhU hUc0 hUc1 hUc2
  have hN4 := hN3.below hB4
  have hA4 := hA3.below hB4
  have hR4 := hR3.below hB4
  have hE4 := hE3.below hB4
  have hU4 := hU3.below hB4
  have hb4 := hb3.trans (hB4.mono (Nat.le_trans hb3.size (by simp)))
  clear hB4 hN3 hA3 hR3 hE3 hU3 hb3
  have lhN := hN4.lt
  obtain ⟨hNn0, hNn1, hNn2, hNn3⟩ := hN4.at
  have lhA := hA4.lt
  have hAc0 := hA4.c0
  have hAc1 := hA4.c1
  have hAc2 := hA4.c2
  have lhR := hR4.lt
  have hRc0 := hR4.c0
  have hRc1 := hR4.c1
  have hRc2 := hR4.c2
  have hRf0 := hR4.free 0
  have hRf1 := hR4.free 1
  have hRf2 := hR4.free 2
  have lhE := hE4.lt
  have hEc0 := hE4.c0
  have hEc1 := hE4.c1
  have hEc2 := hE4.c2
  have lhU := hU4.lt
  have hUc0 := hU4.c0
  have hUc1 := hU4.c1
  have hUc2 := hU4.c2
  go_wp2_with (fail)
  go_at_call 30
  refine (truth_any false _).mono ?_
  rintro e w5 ⟨rfl, hB5⟩
  clear lhN hNn0 hNn1 hNn2 hNn3 lhA hAc0 hAc1 hAc2 lhR hRc0 hRc1 hRc2 hRf0 hRf1 hRf2 lhE hEc0 hEc1 hEc2 lhU hUc0 hUc1 hUc2
  have hN5 := hN4.below hB5
  have hA5 := hA4.below hB5
  have hR5 := hR4.below hB5
  have hE5 := hE4.below hB5
  have hU5 := hU4.below hB5
  have hb5 := hb4.trans (hB5.mono (Nat.le_trans hb4.size (by simp)))
  clear hB5 hN4 hA4 hR4 hE4 hU4 hb4
  unfold vv tr
  have lhN := hN5.lt
  obtain ⟨hNn0, hNn1, hNn2, hNn3⟩ := hN5.at
  have lhA := hA5.lt
  have hAc0 := hA5.c0
  have hAc1 := hA5.c1
  have hAc2 := hA5.c2
  have lhR := hR5.lt
  have hRc0 := hR5.c0
  have hRc1 := hR5.c1
  have hRc2 := hR5.c2
  have hRf0 := hR5.free 0
  have hRf1 := hR5.free 1
  have hRf2 := hR5.free 2
  have lhE := hE5.lt
  have hEc0 := hE5.c0
  have hEc1 := hE5.c1
  have hEc2 := hE5.c2
  have lhU := hU5.lt
  have hUc0 := hU5.c0
  have hUc1 := hU5.c1
  have hUc2 := hU5.c2
  go_wp2
  exact bodyPost_ret (v := wv (⟨2, 0, emp⟩, 0)) (two_res rfl rfl (hR5.set3 ⟨2, 0, emp⟩)) rfl ⟨by rw [HT.out, if_neg (by simp), if_neg HNE.out, if_neg (fun h => h.elim HK.out HK2.out)], set3 hb5 (by omega) _ _ _⟩
set_option maxHeartbeats 400000 in
theorem two_6 (a : Vl) (y : X) (ih : WorkC y) (hga : a.k = 2 → a = ⟨2, 0, emp⟩ ∨ a = ⟨2, 1, emp⟩) (hgu : (workX y).1.k = 2 → (workX y).1 = ⟨2, 0, emp⟩ ∨ (workX y).1 = ⟨2, 1, emp⟩) (op : ByteArray) (n : Int) (g c : Nat) (o t : ByteArray) (m : Int) (q fs rs : Value) (w : World) (hq : NodeAt w g 4 o t m q) (hx : IsX w y o t m q) :
    Calls Try.prog 32 #[nd op ⟨#[79, 82]⟩ n (.slice (some ⟨g, 0, none⟩) 2 c), vv a, fs, rs] w fun e w' => e = .returned (wv (two 6 a (workX y))) ∧ Below w.heap.size w w' := by
  by_cases h2 : a.k = 2
  · rcases hga h2 with rfl | rfl
    · exact two_6n y ih hgu op n g c o t m q fs rs w hq hx
    · exact two_6e y ih hgu op n g c o t m q fs rs w hq hx
  · exact two_6o a y ih h2 hgu op n g c o t m q fs rs w hq hx
end Go.Proofs.Yteedbhkofgkpoaa
