/-
  The walk of the reference's Work at two numbers.
-/
import Derived.Test.YteedbhkofgkpoaaEv10
namespace Go.Proofs.Yteedbhkofgkpoaa
open Go.RowKit Ev
set_option maxRecDepth 100000
set_option linter.unusedVariables false
set_option linter.unusedSimpArgs false
theorem rwork_res {tmps : Array Value} {W : World} {g : Nat} {v : Vl} {f : Int} (h6 : tmps.getD 6 undef = .pointer (some ⟨g, 0, none⟩)) (h7 : tmps.getD 7 undef = .int .i64 f) (h : Lies W g v) :
    (results Try.f15 tmps).run Try.prog W = .ok (wv (v, f)) W := by
  have c0 := h.c0
  have c1 := h.c1
  have c2 := h.c2
  have h6' : tmps[6]?.getD undef = .pointer (some ⟨g, 0, none⟩) := by simpa using h6
  have h7' : tmps[7]?.getD undef = .int .i64 f := by simpa using h7
  simp [results, Try.results15, go_sem, h6', h7', c0, c1, c2, wv, vv]
theorem rwork_int (text : ByteArray) (n : Int) (k fs rs : Value) (w : World) : Calls Try.prog 15 #[nd ⟨#[105, 110, 116]⟩ text n k, fs, rs] w fun e w' => e = .returned (wv (num n, 0)) ∧ Below w.heap.size w w' := by
  unfold nd
  go_enter Try.func15, Try.ntmps15
  go_wp2
  exact bodyPost_ret (v := wv (num n, 0)) (by simp [results, Try.results15, go_sem, vv, wv, num]) rfl ⟨rfl, ((Below.refl _ _).alloc (Nat.le_refl _) _).alloc (by simp) _⟩
set_option maxHeartbeats 1000000 in
theorem rwork_num0 (a b : Int) (ha : In64 a) (hb : In64 b) (m : Int) (g c : Nat) (t t' : ByteArray) (q q' fs rs : Value) (w : World) (hx : NodeAt w g 0 ⟨#[105, 110, 116]⟩ t a q) (hy : NodeAt w g 4 ⟨#[105, 110, 116]⟩ t' b q') :
    Calls Try.prog 15 #[nd ⟨#[98, 105, 110]⟩ ⟨#[43]⟩ m (.slice (some ⟨g, 0, none⟩) 2 c), fs, rs] w fun e w' => e = .returned (wv (numd 0 a b)) ∧ Below w.heap.size w w' := by
  obtain ⟨n, hn⟩ : ∃ n, n = (work 0 a b).1 := ⟨_, rfl⟩
  obtain ⟨f, hf⟩ : ∃ f, f = (work 0 a b).2 := ⟨_, rfl⟩
  unfold numd
  rw [← hn, ← hf]
  have hnv : nv (work 0 a b) = .tuple #[.int .i64 n, .int .i64 f] := by rw [hn, hf]; rfl
  have hc : ∀ W : World, Calls Try.prog 35 #[.string ⟨#[43]⟩, .int .i64 a, .int .i64 b] W fun e w' => e = .returned (.tuple #[.int .i64 n, .int .i64 f]) ∧ w' = W := fun W => by
    rw [← hnv]
    exact rnumber_any 0 (by omega) a b W ha hb
  clear hn hf hnv ha hb
  by_cases h0 : f = 0
  · rw [if_pos h0]
    subst h0
    have hN := lay2_box w ⟨#[98, 105, 110]⟩ ⟨#[43]⟩ m (.slice (some ⟨g, 0, none⟩) 2 c)
    have hL := lay2_lies w ⟨#[98, 105, 110]⟩ ⟨#[43]⟩ m (.slice (some ⟨g, 0, none⟩) 2 c)
    have hb := lay2_below w ⟨#[98, 105, 110]⟩ ⟨#[43]⟩ m (.slice (some ⟨g, 0, none⟩) 2 c)
    have hx0 := hx.below hb
    have hy0 := hy.below hb
    obtain ⟨a0, a1, a2, a3⟩ := hx0
    obtain ⟨n0, n1, n2, n3⟩ := hN.at
    have hl1 := fun W => rwork_int t a q fs rs W
    have hl2 := fun W => rwork_int t' b q' fs rs W
    unfold nd at hl1 hl2 ⊢
    unfold wv vv num at hl1 hl2
    simp only at hl1 hl2
    go_enter Try.func15, Try.ntmps15
    go_wp2_with (fail)
    go_at_call 15
    refine (hl1 _).mono ?_
    rintro e w1 ⟨rfl, hB⟩
    have hN1 := hN.below hB
    have hL1 := hL.below hB
    have hy1 := hy0.below hB
    have hb1 := hb.trans (hB.mono hb.size)
    have hal : Below w1.heap.size w1 (w1.alloc (.cells #[.int .i64 1, .int .i64 a, .string emp] 38)) := (Below.refl _ _).alloc (Nat.le_refl _) _
    have hA2 := Lies.new w1 ⟨1, a, emp⟩
    have hN2 := hN1.below hal
    have hL2 := hL1.below hal
    have hy2 := hy1.below hal
    have hb2 := hb1.trans (hal.mono hb1.size)
    clear a0 a1 a2 a3 n0 n1 n2 n3 hB hN hL hy0 hb hx hy hN1 hL1 hy1 hb1 hal
    have l1 := hN2.lt
    have l2 := hL2.lt
    have l3 := hA2.lt
    obtain ⟨n0, n1, n2, n3⟩ := hN2.at
    obtain ⟨b0, b1, b2, b3⟩ := hy2
    have a0 := hA2.c0
    have a1 := hA2.c1
    have a2 := hA2.c2
    go_wp2_with (fail)
    go_at_call 15
    refine (hl2 _).mono ?_
    rintro e w2 ⟨rfl, hB⟩
    have hN3 := hN2.below hB
    have hL3 := hL2.below hB
    have hA3 := hA2.below hB
    have hb3 := hb2.trans (hB.mono hb2.size)
    have hal : Below w2.heap.size w2 (w2.alloc (.cells #[.int .i64 1, .int .i64 b, .string emp] 38)) := (Below.refl _ _).alloc (Nat.le_refl _) _
    have hC4 := Lies.new w2 ⟨1, b, emp⟩
    have hN4 := hN3.below hal
    have hL4 := hL3.below hal
    have hA4 := hA3.below hal
    have hb4 := hb3.trans (hal.mono hb3.size)
    clear a0 a1 a2 n0 n1 n2 n3 b0 b1 b2 b3 l1 l2 l3 hB hN2 hL2 hA2 hb2 hN3 hL3 hA3 hb3 hal hl1 hl2
    have l1 := hN4.lt
    have l2 := hL4.lt
    have l3 := hA4.lt
    have l4 := hC4.lt
    obtain ⟨n0, n1, n2, n3⟩ := hN4.at
    have a0 := hA4.c0
    have a1 := hA4.c1
    have a2 := hA4.c2
    have d0 := hC4.c0
    have d1 := hC4.c1
    have d2 := hC4.c2
    have c0 := hL4.c0
    have c1 := hL4.c1
    have c2 := hL4.c2
    have f0 := hL4.free 0
    have f1 := hL4.free 1
    have f2 := hL4.free 2
    go_wp2_with (fail)
    go_at_call 35
    refine (hc _).mono ?_
    rintro e w3 ⟨rfl, rfl⟩
    go_wp2
    exact bodyPost_ret (v := wv (num n, 0)) (rwork_res rfl rfl (hL4.set3 (num n))) rfl ⟨rfl, set3 hb4 (by omega) _ _ _⟩
  · rw [if_neg h0]
    have hfb : (f != 0) = true := bne_iff_ne.2 h0
    have hN := lay2_box w ⟨#[98, 105, 110]⟩ ⟨#[43]⟩ m (.slice (some ⟨g, 0, none⟩) 2 c)
    have hL := lay2_lies w ⟨#[98, 105, 110]⟩ ⟨#[43]⟩ m (.slice (some ⟨g, 0, none⟩) 2 c)
    have hb := lay2_below w ⟨#[98, 105, 110]⟩ ⟨#[43]⟩ m (.slice (some ⟨g, 0, none⟩) 2 c)
    have hx0 := hx.below hb
    have hy0 := hy.below hb
    obtain ⟨a0, a1, a2, a3⟩ := hx0
    obtain ⟨n0, n1, n2, n3⟩ := hN.at
    have hl1 := fun W => rwork_int t a q fs rs W
    have hl2 := fun W => rwork_int t' b q' fs rs W
    unfold nd at hl1 hl2 ⊢
    unfold wv vv num at hl1 hl2
    simp only at hl1 hl2
    go_enter Try.func15, Try.ntmps15
    go_wp2_with (fail)
    go_at_call 15
    refine (hl1 _).mono ?_
    rintro e w1 ⟨rfl, hB⟩
    have hN1 := hN.below hB
    have hL1 := hL.below hB
    have hy1 := hy0.below hB
    have hb1 := hb.trans (hB.mono hb.size)
    have hal : Below w1.heap.size w1 (w1.alloc (.cells #[.int .i64 1, .int .i64 a, .string emp] 38)) := (Below.refl _ _).alloc (Nat.le_refl _) _
    have hA2 := Lies.new w1 ⟨1, a, emp⟩
    have hN2 := hN1.below hal
    have hL2 := hL1.below hal
    have hy2 := hy1.below hal
    have hb2 := hb1.trans (hal.mono hb1.size)
    clear a0 a1 a2 a3 n0 n1 n2 n3 hB hN hL hy0 hb hx hy hN1 hL1 hy1 hb1 hal
    have l1 := hN2.lt
    have l2 := hL2.lt
    have l3 := hA2.lt
    obtain ⟨n0, n1, n2, n3⟩ := hN2.at
    obtain ⟨b0, b1, b2, b3⟩ := hy2
    have a0 := hA2.c0
    have a1 := hA2.c1
    have a2 := hA2.c2
    go_wp2_with (fail)
    go_at_call 15
    refine (hl2 _).mono ?_
    rintro e w2 ⟨rfl, hB⟩
    have hN3 := hN2.below hB
    have hL3 := hL2.below hB
    have hA3 := hA2.below hB
    have hb3 := hb2.trans (hB.mono hb2.size)
    have hal : Below w2.heap.size w2 (w2.alloc (.cells #[.int .i64 1, .int .i64 b, .string emp] 38)) := (Below.refl _ _).alloc (Nat.le_refl _) _
    have hC4 := Lies.new w2 ⟨1, b, emp⟩
    have hN4 := hN3.below hal
    have hL4 := hL3.below hal
    have hA4 := hA3.below hal
    have hb4 := hb3.trans (hal.mono hb3.size)
    clear a0 a1 a2 n0 n1 n2 n3 b0 b1 b2 b3 l1 l2 l3 hB hN2 hL2 hA2 hb2 hN3 hL3 hA3 hb3 hal hl1 hl2
    have l1 := hN4.lt
    have l2 := hL4.lt
    have l3 := hA4.lt
    have l4 := hC4.lt
    obtain ⟨n0, n1, n2, n3⟩ := hN4.at
    have a0 := hA4.c0
    have a1 := hA4.c1
    have a2 := hA4.c2
    have d0 := hC4.c0
    have d1 := hC4.c1
    have d2 := hC4.c2
    have c0 := hL4.c0
    have c1 := hL4.c1
    have c2 := hL4.c2
    have f0 := hL4.free 0
    have f1 := hL4.free 1
    have f2 := hL4.free 2
    go_wp2_with (fail)
    go_at_call 35
    refine (hc _).mono ?_
    rintro e w3 ⟨rfl, rfl⟩
    go_wp2
    exact bodyPost_ret (v := wv (nul, f)) (rwork_res rfl rfl (hL4.set3 nul)) rfl ⟨rfl, set3 hb4 (by omega) _ _ _⟩
set_option maxHeartbeats 1000000 in
theorem rwork_num1 (a b : Int) (ha : In64 a) (hb : In64 b) (m : Int) (g c : Nat) (t t' : ByteArray) (q q' fs rs : Value) (w : World) (hx : NodeAt w g 0 ⟨#[105, 110, 116]⟩ t a q) (hy : NodeAt w g 4 ⟨#[105, 110, 116]⟩ t' b q') :
    Calls Try.prog 15 #[nd ⟨#[98, 105, 110]⟩ ⟨#[45]⟩ m (.slice (some ⟨g, 0, none⟩) 2 c), fs, rs] w fun e w' => e = .returned (wv (numd 1 a b)) ∧ Below w.heap.size w w' := by
  obtain ⟨n, hn⟩ : ∃ n, n = (work 1 a b).1 := ⟨_, rfl⟩
  obtain ⟨f, hf⟩ : ∃ f, f = (work 1 a b).2 := ⟨_, rfl⟩
  unfold numd
  rw [← hn, ← hf]
  have hnv : nv (work 1 a b) = .tuple #[.int .i64 n, .int .i64 f] := by rw [hn, hf]; rfl
  have hc : ∀ W : World, Calls Try.prog 35 #[.string ⟨#[45]⟩, .int .i64 a, .int .i64 b] W fun e w' => e = .returned (.tuple #[.int .i64 n, .int .i64 f]) ∧ w' = W := fun W => by
    rw [← hnv]
    exact rnumber_any 1 (by omega) a b W ha hb
  clear hn hf hnv ha hb
  by_cases h0 : f = 0
  · rw [if_pos h0]
    subst h0
    have hN := lay2_box w ⟨#[98, 105, 110]⟩ ⟨#[45]⟩ m (.slice (some ⟨g, 0, none⟩) 2 c)
    have hL := lay2_lies w ⟨#[98, 105, 110]⟩ ⟨#[45]⟩ m (.slice (some ⟨g, 0, none⟩) 2 c)
    have hb := lay2_below w ⟨#[98, 105, 110]⟩ ⟨#[45]⟩ m (.slice (some ⟨g, 0, none⟩) 2 c)
    have hx0 := hx.below hb
    have hy0 := hy.below hb
    obtain ⟨a0, a1, a2, a3⟩ := hx0
    obtain ⟨n0, n1, n2, n3⟩ := hN.at
    have hl1 := fun W => rwork_int t a q fs rs W
    have hl2 := fun W => rwork_int t' b q' fs rs W
    unfold nd at hl1 hl2 ⊢
    unfold wv vv num at hl1 hl2
    simp only at hl1 hl2
    go_enter Try.func15, Try.ntmps15
    go_wp2_with (fail)
    go_at_call 15
    refine (hl1 _).mono ?_
    rintro e w1 ⟨rfl, hB⟩
    have hN1 := hN.below hB
    have hL1 := hL.below hB
    have hy1 := hy0.below hB
    have hb1 := hb.trans (hB.mono hb.size)
    have hal : Below w1.heap.size w1 (w1.alloc (.cells #[.int .i64 1, .int .i64 a, .string emp] 38)) := (Below.refl _ _).alloc (Nat.le_refl _) _
    have hA2 := Lies.new w1 ⟨1, a, emp⟩
    have hN2 := hN1.below hal
    have hL2 := hL1.below hal
    have hy2 := hy1.below hal
    have hb2 := hb1.trans (hal.mono hb1.size)
    clear a0 a1 a2 a3 n0 n1 n2 n3 hB hN hL hy0 hb hx hy hN1 hL1 hy1 hb1 hal
    have l1 := hN2.lt
    have l2 := hL2.lt
    have l3 := hA2.lt
    obtain ⟨n0, n1, n2, n3⟩ := hN2.at
    obtain ⟨b0, b1, b2, b3⟩ := hy2
    have a0 := hA2.c0
    have a1 := hA2.c1
    have a2 := hA2.c2
    go_wp2_with (fail)
    go_at_call 15
    refine (hl2 _).mono ?_
    rintro e w2 ⟨rfl, hB⟩
    have hN3 := hN2.below hB
    have hL3 := hL2.below hB
    have hA3 := hA2.below hB
    have hb3 := hb2.trans (hB.mono hb2.size)
    have hal : Below w2.heap.size w2 (w2.alloc (.cells #[.int .i64 1, .int .i64 b, .string emp] 38)) := (Below.refl _ _).alloc (Nat.le_refl _) _
    have hC4 := Lies.new w2 ⟨1, b, emp⟩
    have hN4 := hN3.below hal
    have hL4 := hL3.below hal
    have hA4 := hA3.below hal
    have hb4 := hb3.trans (hal.mono hb3.size)
    clear a0 a1 a2 n0 n1 n2 n3 b0 b1 b2 b3 l1 l2 l3 hB hN2 hL2 hA2 hb2 hN3 hL3 hA3 hb3 hal hl1 hl2
    have l1 := hN4.lt
    have l2 := hL4.lt
    have l3 := hA4.lt
    have l4 := hC4.lt
    obtain ⟨n0, n1, n2, n3⟩ := hN4.at
    have a0 := hA4.c0
    have a1 := hA4.c1
    have a2 := hA4.c2
    have d0 := hC4.c0
    have d1 := hC4.c1
    have d2 := hC4.c2
    have c0 := hL4.c0
    have c1 := hL4.c1
    have c2 := hL4.c2
    have f0 := hL4.free 0
    have f1 := hL4.free 1
    have f2 := hL4.free 2
    go_wp2_with (fail)
    go_at_call 35
    refine (hc _).mono ?_
    rintro e w3 ⟨rfl, rfl⟩
    go_wp2
    exact bodyPost_ret (v := wv (num n, 0)) (rwork_res rfl rfl (hL4.set3 (num n))) rfl ⟨rfl, set3 hb4 (by omega) _ _ _⟩
  · rw [if_neg h0]
    have hfb : (f != 0) = true := bne_iff_ne.2 h0
    have hN := lay2_box w ⟨#[98, 105, 110]⟩ ⟨#[45]⟩ m (.slice (some ⟨g, 0, none⟩) 2 c)
    have hL := lay2_lies w ⟨#[98, 105, 110]⟩ ⟨#[45]⟩ m (.slice (some ⟨g, 0, none⟩) 2 c)
    have hb := lay2_below w ⟨#[98, 105, 110]⟩ ⟨#[45]⟩ m (.slice (some ⟨g, 0, none⟩) 2 c)
    have hx0 := hx.below hb
    have hy0 := hy.below hb
    obtain ⟨a0, a1, a2, a3⟩ := hx0
    obtain ⟨n0, n1, n2, n3⟩ := hN.at
    have hl1 := fun W => rwork_int t a q fs rs W
    have hl2 := fun W => rwork_int t' b q' fs rs W
    unfold nd at hl1 hl2 ⊢
    unfold wv vv num at hl1 hl2
    simp only at hl1 hl2
    go_enter Try.func15, Try.ntmps15
    go_wp2_with (fail)
    go_at_call 15
    refine (hl1 _).mono ?_
    rintro e w1 ⟨rfl, hB⟩
    have hN1 := hN.below hB
    have hL1 := hL.below hB
    have hy1 := hy0.below hB
    have hb1 := hb.trans (hB.mono hb.size)
    have hal : Below w1.heap.size w1 (w1.alloc (.cells #[.int .i64 1, .int .i64 a, .string emp] 38)) := (Below.refl _ _).alloc (Nat.le_refl _) _
    have hA2 := Lies.new w1 ⟨1, a, emp⟩
    have hN2 := hN1.below hal
    have hL2 := hL1.below hal
    have hy2 := hy1.below hal
    have hb2 := hb1.trans (hal.mono hb1.size)
    clear a0 a1 a2 a3 n0 n1 n2 n3 hB hN hL hy0 hb hx hy hN1 hL1 hy1 hb1 hal
    have l1 := hN2.lt
    have l2 := hL2.lt
    have l3 := hA2.lt
    obtain ⟨n0, n1, n2, n3⟩ := hN2.at
    obtain ⟨b0, b1, b2, b3⟩ := hy2
    have a0 := hA2.c0
    have a1 := hA2.c1
    have a2 := hA2.c2
    go_wp2_with (fail)
    go_at_call 15
    refine (hl2 _).mono ?_
    rintro e w2 ⟨rfl, hB⟩
    have hN3 := hN2.below hB
    have hL3 := hL2.below hB
    have hA3 := hA2.below hB
    have hb3 := hb2.trans (hB.mono hb2.size)
    have hal : Below w2.heap.size w2 (w2.alloc (.cells #[.int .i64 1, .int .i64 b, .string emp] 38)) := (Below.refl _ _).alloc (Nat.le_refl _) _
    have hC4 := Lies.new w2 ⟨1, b, emp⟩
    have hN4 := hN3.below hal
    have hL4 := hL3.below hal
    have hA4 := hA3.below hal
    have hb4 := hb3.trans (hal.mono hb3.size)
    clear a0 a1 a2 n0 n1 n2 n3 b0 b1 b2 b3 l1 l2 l3 hB hN2 hL2 hA2 hb2 hN3 hL3 hA3 hb3 hal hl1 hl2
    have l1 := hN4.lt
    have l2 := hL4.lt
    have l3 := hA4.lt
    have l4 := hC4.lt
    obtain ⟨n0, n1, n2, n3⟩ := hN4.at
    have a0 := hA4.c0
    have a1 := hA4.c1
    have a2 := hA4.c2
    have d0 := hC4.c0
    have d1 := hC4.c1
    have d2 := hC4.c2
    have c0 := hL4.c0
    have c1 := hL4.c1
    have c2 := hL4.c2
    have f0 := hL4.free 0
    have f1 := hL4.free 1
    have f2 := hL4.free 2
    go_wp2_with (fail)
    go_at_call 35
    refine (hc _).mono ?_
    rintro e w3 ⟨rfl, rfl⟩
    go_wp2
    exact bodyPost_ret (v := wv (nul, f)) (rwork_res rfl rfl (hL4.set3 nul)) rfl ⟨rfl, set3 hb4 (by omega) _ _ _⟩
set_option maxHeartbeats 1000000 in
theorem rwork_num2 (a b : Int) (ha : In64 a) (hb : In64 b) (m : Int) (g c : Nat) (t t' : ByteArray) (q q' fs rs : Value) (w : World) (hx : NodeAt w g 0 ⟨#[105, 110, 116]⟩ t a q) (hy : NodeAt w g 4 ⟨#[105, 110, 116]⟩ t' b q') :
    Calls Try.prog 15 #[nd ⟨#[98, 105, 110]⟩ ⟨#[42]⟩ m (.slice (some ⟨g, 0, none⟩) 2 c), fs, rs] w fun e w' => e = .returned (wv (numd 2 a b)) ∧ Below w.heap.size w w' := by
  obtain ⟨n, hn⟩ : ∃ n, n = (work 2 a b).1 := ⟨_, rfl⟩
  obtain ⟨f, hf⟩ : ∃ f, f = (work 2 a b).2 := ⟨_, rfl⟩
  unfold numd
  rw [← hn, ← hf]
  have hnv : nv (work 2 a b) = .tuple #[.int .i64 n, .int .i64 f] := by rw [hn, hf]; rfl
  have hc : ∀ W : World, Calls Try.prog 35 #[.string ⟨#[42]⟩, .int .i64 a, .int .i64 b] W fun e w' => e = .returned (.tuple #[.int .i64 n, .int .i64 f]) ∧ w' = W := fun W => by
    rw [← hnv]
    exact rnumber_any 2 (by omega) a b W ha hb
  clear hn hf hnv ha hb
  by_cases h0 : f = 0
  · rw [if_pos h0]
    subst h0
    have hN := lay2_box w ⟨#[98, 105, 110]⟩ ⟨#[42]⟩ m (.slice (some ⟨g, 0, none⟩) 2 c)
    have hL := lay2_lies w ⟨#[98, 105, 110]⟩ ⟨#[42]⟩ m (.slice (some ⟨g, 0, none⟩) 2 c)
    have hb := lay2_below w ⟨#[98, 105, 110]⟩ ⟨#[42]⟩ m (.slice (some ⟨g, 0, none⟩) 2 c)
    have hx0 := hx.below hb
    have hy0 := hy.below hb
    obtain ⟨a0, a1, a2, a3⟩ := hx0
    obtain ⟨n0, n1, n2, n3⟩ := hN.at
    have hl1 := fun W => rwork_int t a q fs rs W
    have hl2 := fun W => rwork_int t' b q' fs rs W
    unfold nd at hl1 hl2 ⊢
    unfold wv vv num at hl1 hl2
    simp only at hl1 hl2
    go_enter Try.func15, Try.ntmps15
    go_wp2_with (fail)
    go_at_call 15
    refine (hl1 _).mono ?_
    rintro e w1 ⟨rfl, hB⟩
    have hN1 := hN.below hB
    have hL1 := hL.below hB
    have hy1 := hy0.below hB
    have hb1 := hb.trans (hB.mono hb.size)
    have hal : Below w1.heap.size w1 (w1.alloc (.cells #[.int .i64 1, .int .i64 a, .string emp] 38)) := (Below.refl _ _).alloc (Nat.le_refl _) _
    have hA2 := Lies.new w1 ⟨1, a, emp⟩
    have hN2 := hN1.below hal
    have hL2 := hL1.below hal
    have hy2 := hy1.below hal
    have hb2 := hb1.trans (hal.mono hb1.size)
    clear a0 a1 a2 a3 n0 n1 n2 n3 hB hN hL hy0 hb hx hy hN1 hL1 hy1 hb1 hal
    have l1 := hN2.lt
    have l2 := hL2.lt
    have l3 := hA2.lt
    obtain ⟨n0, n1, n2, n3⟩ := hN2.at
    obtain ⟨b0, b1, b2, b3⟩ := hy2
    have a0 := hA2.c0
    have a1 := hA2.c1
    have a2 := hA2.c2
    go_wp2_with (fail)
    go_at_call 15
    refine (hl2 _).mono ?_
    rintro e w2 ⟨rfl, hB⟩
    have hN3 := hN2.below hB
    have hL3 := hL2.below hB
    have hA3 := hA2.below hB
    have hb3 := hb2.trans (hB.mono hb2.size)
    have hal : Below w2.heap.size w2 (w2.alloc (.cells #[.int .i64 1, .int .i64 b, .string emp] 38)) := (Below.refl _ _).alloc (Nat.le_refl _) _
    have hC4 := Lies.new w2 ⟨1, b, emp⟩
    have hN4 := hN3.below hal
    have hL4 := hL3.below hal
    have hA4 := hA3.below hal
    have hb4 := hb3.trans (hal.mono hb3.size)
    clear a0 a1 a2 n0 n1 n2 n3 b0 b1 b2 b3 l1 l2 l3 hB hN2 hL2 hA2 hb2 hN3 hL3 hA3 hb3 hal hl1 hl2
    have l1 := hN4.lt
    have l2 := hL4.lt
    have l3 := hA4.lt
    have l4 := hC4.lt
    obtain ⟨n0, n1, n2, n3⟩ := hN4.at
    have a0 := hA4.c0
    have a1 := hA4.c1
    have a2 := hA4.c2
    have d0 := hC4.c0
    have d1 := hC4.c1
    have d2 := hC4.c2
    have c0 := hL4.c0
    have c1 := hL4.c1
    have c2 := hL4.c2
    have f0 := hL4.free 0
    have f1 := hL4.free 1
    have f2 := hL4.free 2
    go_wp2_with (fail)
    go_at_call 35
    refine (hc _).mono ?_
    rintro e w3 ⟨rfl, rfl⟩
    go_wp2
    exact bodyPost_ret (v := wv (num n, 0)) (rwork_res rfl rfl (hL4.set3 (num n))) rfl ⟨rfl, set3 hb4 (by omega) _ _ _⟩
  · rw [if_neg h0]
    have hfb : (f != 0) = true := bne_iff_ne.2 h0
    have hN := lay2_box w ⟨#[98, 105, 110]⟩ ⟨#[42]⟩ m (.slice (some ⟨g, 0, none⟩) 2 c)
    have hL := lay2_lies w ⟨#[98, 105, 110]⟩ ⟨#[42]⟩ m (.slice (some ⟨g, 0, none⟩) 2 c)
    have hb := lay2_below w ⟨#[98, 105, 110]⟩ ⟨#[42]⟩ m (.slice (some ⟨g, 0, none⟩) 2 c)
    have hx0 := hx.below hb
    have hy0 := hy.below hb
    obtain ⟨a0, a1, a2, a3⟩ := hx0
    obtain ⟨n0, n1, n2, n3⟩ := hN.at
    have hl1 := fun W => rwork_int t a q fs rs W
    have hl2 := fun W => rwork_int t' b q' fs rs W
    unfold nd at hl1 hl2 ⊢
    unfold wv vv num at hl1 hl2
    simp only at hl1 hl2
    go_enter Try.func15, Try.ntmps15
    go_wp2_with (fail)
    go_at_call 15
    refine (hl1 _).mono ?_
    rintro e w1 ⟨rfl, hB⟩
    have hN1 := hN.below hB
    have hL1 := hL.below hB
    have hy1 := hy0.below hB
    have hb1 := hb.trans (hB.mono hb.size)
    have hal : Below w1.heap.size w1 (w1.alloc (.cells #[.int .i64 1, .int .i64 a, .string emp] 38)) := (Below.refl _ _).alloc (Nat.le_refl _) _
    have hA2 := Lies.new w1 ⟨1, a, emp⟩
    have hN2 := hN1.below hal
    have hL2 := hL1.below hal
    have hy2 := hy1.below hal
    have hb2 := hb1.trans (hal.mono hb1.size)
    clear a0 a1 a2 a3 n0 n1 n2 n3 hB hN hL hy0 hb hx hy hN1 hL1 hy1 hb1 hal
    have l1 := hN2.lt
    have l2 := hL2.lt
    have l3 := hA2.lt
    obtain ⟨n0, n1, n2, n3⟩ := hN2.at
    obtain ⟨b0, b1, b2, b3⟩ := hy2
    have a0 := hA2.c0
    have a1 := hA2.c1
    have a2 := hA2.c2
    go_wp2_with (fail)
    go_at_call 15
    refine (hl2 _).mono ?_
    rintro e w2 ⟨rfl, hB⟩
    have hN3 := hN2.below hB
    have hL3 := hL2.below hB
    have hA3 := hA2.below hB
    have hb3 := hb2.trans (hB.mono hb2.size)
    have hal : Below w2.heap.size w2 (w2.alloc (.cells #[.int .i64 1, .int .i64 b, .string emp] 38)) := (Below.refl _ _).alloc (Nat.le_refl _) _
    have hC4 := Lies.new w2 ⟨1, b, emp⟩
    have hN4 := hN3.below hal
    have hL4 := hL3.below hal
    have hA4 := hA3.below hal
    have hb4 := hb3.trans (hal.mono hb3.size)
    clear a0 a1 a2 n0 n1 n2 n3 b0 b1 b2 b3 l1 l2 l3 hB hN2 hL2 hA2 hb2 hN3 hL3 hA3 hb3 hal hl1 hl2
    have l1 := hN4.lt
    have l2 := hL4.lt
    have l3 := hA4.lt
    have l4 := hC4.lt
    obtain ⟨n0, n1, n2, n3⟩ := hN4.at
    have a0 := hA4.c0
    have a1 := hA4.c1
    have a2 := hA4.c2
    have d0 := hC4.c0
    have d1 := hC4.c1
    have d2 := hC4.c2
    have c0 := hL4.c0
    have c1 := hL4.c1
    have c2 := hL4.c2
    have f0 := hL4.free 0
    have f1 := hL4.free 1
    have f2 := hL4.free 2
    go_wp2_with (fail)
    go_at_call 35
    refine (hc _).mono ?_
    rintro e w3 ⟨rfl, rfl⟩
    go_wp2
    exact bodyPost_ret (v := wv (nul, f)) (rwork_res rfl rfl (hL4.set3 nul)) rfl ⟨rfl, set3 hb4 (by omega) _ _ _⟩
set_option maxHeartbeats 1000000 in
theorem rwork_num3 (a b : Int) (ha : In64 a) (hb : In64 b) (m : Int) (g c : Nat) (t t' : ByteArray) (q q' fs rs : Value) (w : World) (hx : NodeAt w g 0 ⟨#[105, 110, 116]⟩ t a q) (hy : NodeAt w g 4 ⟨#[105, 110, 116]⟩ t' b q') :
    Calls Try.prog 15 #[nd ⟨#[98, 105, 110]⟩ ⟨#[47]⟩ m (.slice (some ⟨g, 0, none⟩) 2 c), fs, rs] w fun e w' => e = .returned (wv (numd 3 a b)) ∧ Below w.heap.size w w' := by
  obtain ⟨n, hn⟩ : ∃ n, n = (work 3 a b).1 := ⟨_, rfl⟩
  obtain ⟨f, hf⟩ : ∃ f, f = (work 3 a b).2 := ⟨_, rfl⟩
  unfold numd
  rw [← hn, ← hf]
  have hnv : nv (work 3 a b) = .tuple #[.int .i64 n, .int .i64 f] := by rw [hn, hf]; rfl
  have hc : ∀ W : World, Calls Try.prog 35 #[.string ⟨#[47]⟩, .int .i64 a, .int .i64 b] W fun e w' => e = .returned (.tuple #[.int .i64 n, .int .i64 f]) ∧ w' = W := fun W => by
    rw [← hnv]
    exact rnumber_any 3 (by omega) a b W ha hb
  clear hn hf hnv ha hb
  by_cases h0 : f = 0
  · rw [if_pos h0]
    subst h0
    have hN := lay2_box w ⟨#[98, 105, 110]⟩ ⟨#[47]⟩ m (.slice (some ⟨g, 0, none⟩) 2 c)
    have hL := lay2_lies w ⟨#[98, 105, 110]⟩ ⟨#[47]⟩ m (.slice (some ⟨g, 0, none⟩) 2 c)
    have hb := lay2_below w ⟨#[98, 105, 110]⟩ ⟨#[47]⟩ m (.slice (some ⟨g, 0, none⟩) 2 c)
    have hx0 := hx.below hb
    have hy0 := hy.below hb
    obtain ⟨a0, a1, a2, a3⟩ := hx0
    obtain ⟨n0, n1, n2, n3⟩ := hN.at
    have hl1 := fun W => rwork_int t a q fs rs W
    have hl2 := fun W => rwork_int t' b q' fs rs W
    unfold nd at hl1 hl2 ⊢
    unfold wv vv num at hl1 hl2
    simp only at hl1 hl2
    go_enter Try.func15, Try.ntmps15
    go_wp2_with (fail)
    go_at_call 15
    refine (hl1 _).mono ?_
    rintro e w1 ⟨rfl, hB⟩
    have hN1 := hN.below hB
    have hL1 := hL.below hB
    have hy1 := hy0.below hB
    have hb1 := hb.trans (hB.mono hb.size)
    have hal : Below w1.heap.size w1 (w1.alloc (.cells #[.int .i64 1, .int .i64 a, .string emp] 38)) := (Below.refl _ _).alloc (Nat.le_refl _) _
    have hA2 := Lies.new w1 ⟨1, a, emp⟩
    have hN2 := hN1.below hal
    have hL2 := hL1.below hal
    have hy2 := hy1.below hal
    have hb2 := hb1.trans (hal.mono hb1.size)
    clear a0 a1 a2 a3 n0 n1 n2 n3 hB hN hL hy0 hb hx hy hN1 hL1 hy1 hb1 hal
    have l1 := hN2.lt
    have l2 := hL2.lt
    have l3 := hA2.lt
    obtain ⟨n0, n1, n2, n3⟩ := hN2.at
    obtain ⟨b0, b1, b2, b3⟩ := hy2
    have a0 := hA2.c0
    have a1 := hA2.c1
    have a2 := hA2.c2
    go_wp2_with (fail)
    go_at_call 15
    refine (hl2 _).mono ?_
    rintro e w2 ⟨rfl, hB⟩
    have hN3 := hN2.below hB
    have hL3 := hL2.below hB
    have hA3 := hA2.below hB
    have hb3 := hb2.trans (hB.mono hb2.size)
    have hal : Below w2.heap.size w2 (w2.alloc (.cells #[.int .i64 1, .int .i64 b, .string emp] 38)) := (Below.refl _ _).alloc (Nat.le_refl _) _
    have hC4 := Lies.new w2 ⟨1, b, emp⟩
    have hN4 := hN3.below hal
    have hL4 := hL3.below hal
    have hA4 := hA3.below hal
    have hb4 := hb3.trans (hal.mono hb3.size)
    clear a0 a1 a2 n0 n1 n2 n3 b0 b1 b2 b3 l1 l2 l3 hB hN2 hL2 hA2 hb2 hN3 hL3 hA3 hb3 hal hl1 hl2
    have l1 := hN4.lt
    have l2 := hL4.lt
    have l3 := hA4.lt
    have l4 := hC4.lt
    obtain ⟨n0, n1, n2, n3⟩ := hN4.at
    have a0 := hA4.c0
    have a1 := hA4.c1
    have a2 := hA4.c2
    have d0 := hC4.c0
    have d1 := hC4.c1
    have d2 := hC4.c2
    have c0 := hL4.c0
    have c1 := hL4.c1
    have c2 := hL4.c2
    have f0 := hL4.free 0
    have f1 := hL4.free 1
    have f2 := hL4.free 2
    go_wp2_with (fail)
    go_at_call 35
    refine (hc _).mono ?_
    rintro e w3 ⟨rfl, rfl⟩
    go_wp2
    exact bodyPost_ret (v := wv (num n, 0)) (rwork_res rfl rfl (hL4.set3 (num n))) rfl ⟨rfl, set3 hb4 (by omega) _ _ _⟩
  · rw [if_neg h0]
    have hfb : (f != 0) = true := bne_iff_ne.2 h0
    have hN := lay2_box w ⟨#[98, 105, 110]⟩ ⟨#[47]⟩ m (.slice (some ⟨g, 0, none⟩) 2 c)
    have hL := lay2_lies w ⟨#[98, 105, 110]⟩ ⟨#[47]⟩ m (.slice (some ⟨g, 0, none⟩) 2 c)
    have hb := lay2_below w ⟨#[98, 105, 110]⟩ ⟨#[47]⟩ m (.slice (some ⟨g, 0, none⟩) 2 c)
    have hx0 := hx.below hb
    have hy0 := hy.below hb
    obtain ⟨a0, a1, a2, a3⟩ := hx0
    obtain ⟨n0, n1, n2, n3⟩ := hN.at
    have hl1 := fun W => rwork_int t a q fs rs W
    have hl2 := fun W => rwork_int t' b q' fs rs W
    unfold nd at hl1 hl2 ⊢
    unfold wv vv num at hl1 hl2
    simp only at hl1 hl2
    go_enter Try.func15, Try.ntmps15
    go_wp2_with (fail)
    go_at_call 15
    refine (hl1 _).mono ?_
    rintro e w1 ⟨rfl, hB⟩
    have hN1 := hN.below hB
    have hL1 := hL.below hB
    have hy1 := hy0.below hB
    have hb1 := hb.trans (hB.mono hb.size)
    have hal : Below w1.heap.size w1 (w1.alloc (.cells #[.int .i64 1, .int .i64 a, .string emp] 38)) := (Below.refl _ _).alloc (Nat.le_refl _) _
    have hA2 := Lies.new w1 ⟨1, a, emp⟩
    have hN2 := hN1.below hal
    have hL2 := hL1.below hal
    have hy2 := hy1.below hal
    have hb2 := hb1.trans (hal.mono hb1.size)
    clear a0 a1 a2 a3 n0 n1 n2 n3 hB hN hL hy0 hb hx hy hN1 hL1 hy1 hb1 hal
    have l1 := hN2.lt
    have l2 := hL2.lt
    have l3 := hA2.lt
    obtain ⟨n0, n1, n2, n3⟩ := hN2.at
    obtain ⟨b0, b1, b2, b3⟩ := hy2
    have a0 := hA2.c0
    have a1 := hA2.c1
    have a2 := hA2.c2
    go_wp2_with (fail)
    go_at_call 15
    refine (hl2 _).mono ?_
    rintro e w2 ⟨rfl, hB⟩
    have hN3 := hN2.below hB
    have hL3 := hL2.below hB
    have hA3 := hA2.below hB
    have hb3 := hb2.trans (hB.mono hb2.size)
    have hal : Below w2.heap.size w2 (w2.alloc (.cells #[.int .i64 1, .int .i64 b, .string emp] 38)) := (Below.refl _ _).alloc (Nat.le_refl _) _
    have hC4 := Lies.new w2 ⟨1, b, emp⟩
    have hN4 := hN3.below hal
    have hL4 := hL3.below hal
    have hA4 := hA3.below hal
    have hb4 := hb3.trans (hal.mono hb3.size)
    clear a0 a1 a2 n0 n1 n2 n3 b0 b1 b2 b3 l1 l2 l3 hB hN2 hL2 hA2 hb2 hN3 hL3 hA3 hb3 hal hl1 hl2
    have l1 := hN4.lt
    have l2 := hL4.lt
    have l3 := hA4.lt
    have l4 := hC4.lt
    obtain ⟨n0, n1, n2, n3⟩ := hN4.at
    have a0 := hA4.c0
    have a1 := hA4.c1
    have a2 := hA4.c2
    have d0 := hC4.c0
    have d1 := hC4.c1
    have d2 := hC4.c2
    have c0 := hL4.c0
    have c1 := hL4.c1
    have c2 := hL4.c2
    have f0 := hL4.free 0
    have f1 := hL4.free 1
    have f2 := hL4.free 2
    go_wp2_with (fail)
    go_at_call 35
    refine (hc _).mono ?_
    rintro e w3 ⟨rfl, rfl⟩
    go_wp2
    exact bodyPost_ret (v := wv (nul, f)) (rwork_res rfl rfl (hL4.set3 nul)) rfl ⟨rfl, set3 hb4 (by omega) _ _ _⟩
set_option maxHeartbeats 1000000 in
theorem rwork_num4 (a b : Int) (ha : In64 a) (hb : In64 b) (m : Int) (g c : Nat) (t t' : ByteArray) (q q' fs rs : Value) (w : World) (hx : NodeAt w g 0 ⟨#[105, 110, 116]⟩ t a q) (hy : NodeAt w g 4 ⟨#[105, 110, 116]⟩ t' b q') :
    Calls Try.prog 15 #[nd ⟨#[98, 105, 110]⟩ ⟨#[37]⟩ m (.slice (some ⟨g, 0, none⟩) 2 c), fs, rs] w fun e w' => e = .returned (wv (numd 4 a b)) ∧ Below w.heap.size w w' := by
  obtain ⟨n, hn⟩ : ∃ n, n = (work 4 a b).1 := ⟨_, rfl⟩
  obtain ⟨f, hf⟩ : ∃ f, f = (work 4 a b).2 := ⟨_, rfl⟩
  unfold numd
  rw [← hn, ← hf]
  have hnv : nv (work 4 a b) = .tuple #[.int .i64 n, .int .i64 f] := by rw [hn, hf]; rfl
  have hc : ∀ W : World, Calls Try.prog 35 #[.string ⟨#[37]⟩, .int .i64 a, .int .i64 b] W fun e w' => e = .returned (.tuple #[.int .i64 n, .int .i64 f]) ∧ w' = W := fun W => by
    rw [← hnv]
    exact rnumber_any 4 (by omega) a b W ha hb
  clear hn hf hnv ha hb
  by_cases h0 : f = 0
  · rw [if_pos h0]
    subst h0
    have hN := lay2_box w ⟨#[98, 105, 110]⟩ ⟨#[37]⟩ m (.slice (some ⟨g, 0, none⟩) 2 c)
    have hL := lay2_lies w ⟨#[98, 105, 110]⟩ ⟨#[37]⟩ m (.slice (some ⟨g, 0, none⟩) 2 c)
    have hb := lay2_below w ⟨#[98, 105, 110]⟩ ⟨#[37]⟩ m (.slice (some ⟨g, 0, none⟩) 2 c)
    have hx0 := hx.below hb
    have hy0 := hy.below hb
    obtain ⟨a0, a1, a2, a3⟩ := hx0
    obtain ⟨n0, n1, n2, n3⟩ := hN.at
    have hl1 := fun W => rwork_int t a q fs rs W
    have hl2 := fun W => rwork_int t' b q' fs rs W
    unfold nd at hl1 hl2 ⊢
    unfold wv vv num at hl1 hl2
    simp only at hl1 hl2
    go_enter Try.func15, Try.ntmps15
    go_wp2_with (fail)
    go_at_call 15
    refine (hl1 _).mono ?_
    rintro e w1 ⟨rfl, hB⟩
    have hN1 := hN.below hB
    have hL1 := hL.below hB
    have hy1 := hy0.below hB
    have hb1 := hb.trans (hB.mono hb.size)
    have hal : Below w1.heap.size w1 (w1.alloc (.cells #[.int .i64 1, .int .i64 a, .string emp] 38)) := (Below.refl _ _).alloc (Nat.le_refl _) _
    have hA2 := Lies.new w1 ⟨1, a, emp⟩
    have hN2 := hN1.below hal
    have hL2 := hL1.below hal
    have hy2 := hy1.below hal
    have hb2 := hb1.trans (hal.mono hb1.size)
    clear a0 a1 a2 a3 n0 n1 n2 n3 hB hN hL hy0 hb hx hy hN1 hL1 hy1 hb1 hal
    have l1 := hN2.lt
    have l2 := hL2.lt
    have l3 := hA2.lt
    obtain ⟨n0, n1, n2, n3⟩ := hN2.at
    obtain ⟨b0, b1, b2, b3⟩ := hy2
    have a0 := hA2.c0
    have a1 := hA2.c1
    have a2 := hA2.c2
    go_wp2_with (fail)
    go_at_call 15
    refine (hl2 _).mono ?_
    rintro e w2 ⟨rfl, hB⟩
    have hN3 := hN2.below hB
    have hL3 := hL2.below hB
    have hA3 := hA2.below hB
    have hb3 := hb2.trans (hB.mono hb2.size)
    have hal : Below w2.heap.size w2 (w2.alloc (.cells #[.int .i64 1, .int .i64 b, .string emp] 38)) := (Below.refl _ _).alloc (Nat.le_refl _) _
    have hC4 := Lies.new w2 ⟨1, b, emp⟩
    have hN4 := hN3.below hal
    have hL4 := hL3.below hal
    have hA4 := hA3.below hal
    have hb4 := hb3.trans (hal.mono hb3.size)
    clear a0 a1 a2 n0 n1 n2 n3 b0 b1 b2 b3 l1 l2 l3 hB hN2 hL2 hA2 hb2 hN3 hL3 hA3 hb3 hal hl1 hl2
    have l1 := hN4.lt
    have l2 := hL4.lt
    have l3 := hA4.lt
    have l4 := hC4.lt
    obtain ⟨n0, n1, n2, n3⟩ := hN4.at
    have a0 := hA4.c0
    have a1 := hA4.c1
    have a2 := hA4.c2
    have d0 := hC4.c0
    have d1 := hC4.c1
    have d2 := hC4.c2
    have c0 := hL4.c0
    have c1 := hL4.c1
    have c2 := hL4.c2
    have f0 := hL4.free 0
    have f1 := hL4.free 1
    have f2 := hL4.free 2
    go_wp2_with (fail)
    go_at_call 35
    refine (hc _).mono ?_
    rintro e w3 ⟨rfl, rfl⟩
    go_wp2
    exact bodyPost_ret (v := wv (num n, 0)) (rwork_res rfl rfl (hL4.set3 (num n))) rfl ⟨rfl, set3 hb4 (by omega) _ _ _⟩
  · rw [if_neg h0]
    have hfb : (f != 0) = true := bne_iff_ne.2 h0
    have hN := lay2_box w ⟨#[98, 105, 110]⟩ ⟨#[37]⟩ m (.slice (some ⟨g, 0, none⟩) 2 c)
    have hL := lay2_lies w ⟨#[98, 105, 110]⟩ ⟨#[37]⟩ m (.slice (some ⟨g, 0, none⟩) 2 c)
    have hb := lay2_below w ⟨#[98, 105, 110]⟩ ⟨#[37]⟩ m (.slice (some ⟨g, 0, none⟩) 2 c)
    have hx0 := hx.below hb
    have hy0 := hy.below hb
    obtain ⟨a0, a1, a2, a3⟩ := hx0
    obtain ⟨n0, n1, n2, n3⟩ := hN.at
    have hl1 := fun W => rwork_int t a q fs rs W
    have hl2 := fun W => rwork_int t' b q' fs rs W
    unfold nd at hl1 hl2 ⊢
    unfold wv vv num at hl1 hl2
    simp only at hl1 hl2
    go_enter Try.func15, Try.ntmps15
    go_wp2_with (fail)
    go_at_call 15
    refine (hl1 _).mono ?_
    rintro e w1 ⟨rfl, hB⟩
    have hN1 := hN.below hB
    have hL1 := hL.below hB
    have hy1 := hy0.below hB
    have hb1 := hb.trans (hB.mono hb.size)
    have hal : Below w1.heap.size w1 (w1.alloc (.cells #[.int .i64 1, .int .i64 a, .string emp] 38)) := (Below.refl _ _).alloc (Nat.le_refl _) _
    have hA2 := Lies.new w1 ⟨1, a, emp⟩
    have hN2 := hN1.below hal
    have hL2 := hL1.below hal
    have hy2 := hy1.below hal
    have hb2 := hb1.trans (hal.mono hb1.size)
    clear a0 a1 a2 a3 n0 n1 n2 n3 hB hN hL hy0 hb hx hy hN1 hL1 hy1 hb1 hal
    have l1 := hN2.lt
    have l2 := hL2.lt
    have l3 := hA2.lt
    obtain ⟨n0, n1, n2, n3⟩ := hN2.at
    obtain ⟨b0, b1, b2, b3⟩ := hy2
    have a0 := hA2.c0
    have a1 := hA2.c1
    have a2 := hA2.c2
    go_wp2_with (fail)
    go_at_call 15
    refine (hl2 _).mono ?_
    rintro e w2 ⟨rfl, hB⟩
    have hN3 := hN2.below hB
    have hL3 := hL2.below hB
    have hA3 := hA2.below hB
    have hb3 := hb2.trans (hB.mono hb2.size)
    have hal : Below w2.heap.size w2 (w2.alloc (.cells #[.int .i64 1, .int .i64 b, .string emp] 38)) := (Below.refl _ _).alloc (Nat.le_refl _) _
    have hC4 := Lies.new w2 ⟨1, b, emp⟩
    have hN4 := hN3.below hal
    have hL4 := hL3.below hal
    have hA4 := hA3.below hal
    have hb4 := hb3.trans (hal.mono hb3.size)
    clear a0 a1 a2 n0 n1 n2 n3 b0 b1 b2 b3 l1 l2 l3 hB hN2 hL2 hA2 hb2 hN3 hL3 hA3 hb3 hal hl1 hl2
    have l1 := hN4.lt
    have l2 := hL4.lt
    have l3 := hA4.lt
    have l4 := hC4.lt
    obtain ⟨n0, n1, n2, n3⟩ := hN4.at
    have a0 := hA4.c0
    have a1 := hA4.c1
    have a2 := hA4.c2
    have d0 := hC4.c0
    have d1 := hC4.c1
    have d2 := hC4.c2
    have c0 := hL4.c0
    have c1 := hL4.c1
    have c2 := hL4.c2
    have f0 := hL4.free 0
    have f1 := hL4.free 1
    have f2 := hL4.free 2
    go_wp2_with (fail)
    go_at_call 35
    refine (hc _).mono ?_
    rintro e w3 ⟨rfl, rfl⟩
    go_wp2
    exact bodyPost_ret (v := wv (nul, f)) (rwork_res rfl rfl (hL4.set3 nul)) rfl ⟨rfl, set3 hb4 (by omega) _ _ _⟩
set_option maxHeartbeats 1000000 in
theorem rwork_cmp0 (a b : Int) (m : Int) (g c : Nat) (t t' : ByteArray) (q q' fs rs : Value) (w : World) (hx : NodeAt w g 0 ⟨#[105, 110, 116]⟩ t a q) (hy : NodeAt w g 4 ⟨#[105, 110, 116]⟩ t' b q') :
    Calls Try.prog 15 #[nd ⟨#[98, 105, 110]⟩ ⟨#[61]⟩ m (.slice (some ⟨g, 0, none⟩) 2 c), fs, rs] w fun e w' => e = .returned (wv (tr (cmpO 0 (one (num a) (num b))), 0)) ∧ Below w.heap.size w w' := by
  obtain ⟨b', hb'⟩ : ∃ b', b' = cmpO 0 (one (num a) (num b)) := ⟨_, rfl⟩
  obtain ⟨u, hu⟩ : ∃ u, u = tr b' := ⟨_, rfl⟩
  rw [← hb', ← hu]
  have hc := fun W => rcompared_any 0 (by omega) (num a) (num b) W
  have ht := fun W => rtruth_any b' W
  rw [← hb'] at hc
  rw [← hu] at ht
  unfold cmpOS vv num at hc
  simp only at hc
  clear hb' hu
  have hN := lay2_box w ⟨#[98, 105, 110]⟩ ⟨#[61]⟩ m (.slice (some ⟨g, 0, none⟩) 2 c)
  have hL := lay2_lies w ⟨#[98, 105, 110]⟩ ⟨#[61]⟩ m (.slice (some ⟨g, 0, none⟩) 2 c)
  have hb := lay2_below w ⟨#[98, 105, 110]⟩ ⟨#[61]⟩ m (.slice (some ⟨g, 0, none⟩) 2 c)
  have hx0 := hx.below hb
  have hy0 := hy.below hb
  obtain ⟨a0, a1, a2, a3⟩ := hx0
  obtain ⟨n0, n1, n2, n3⟩ := hN.at
  have hl1 := fun W => rwork_int t a q fs rs W
  have hl2 := fun W => rwork_int t' b q' fs rs W
  unfold nd at hl1 hl2 ⊢
  unfold wv vv num at hl1 hl2
  simp only at hl1 hl2
  go_enter Try.func15, Try.ntmps15
  go_wp2_with (fail)
  go_at_call 15
  refine (hl1 _).mono ?_
  rintro e w1 ⟨rfl, hB⟩
  have hN1 := hN.below hB
  have hL1 := hL.below hB
  have hy1 := hy0.below hB
  have hb1 := hb.trans (hB.mono hb.size)
  have hal : Below w1.heap.size w1 (w1.alloc (.cells #[.int .i64 1, .int .i64 a, .string emp] 38)) := (Below.refl _ _).alloc (Nat.le_refl _) _
  have hA2 := Lies.new w1 ⟨1, a, emp⟩
  have hN2 := hN1.below hal
  have hL2 := hL1.below hal
  have hy2 := hy1.below hal
  have hb2 := hb1.trans (hal.mono hb1.size)
  clear a0 a1 a2 a3 n0 n1 n2 n3 hB hN hL hy0 hb hx hy hN1 hL1 hy1 hb1 hal
  have l1 := hN2.lt
  have l2 := hL2.lt
  have l3 := hA2.lt
  obtain ⟨n0, n1, n2, n3⟩ := hN2.at
  obtain ⟨b0, b1, b2, b3⟩ := hy2
  have a0 := hA2.c0
  have a1 := hA2.c1
  have a2 := hA2.c2
  go_wp2_with (fail)
  go_at_call 15
  refine (hl2 _).mono ?_
  rintro e w2 ⟨rfl, hB⟩
  have hN3 := hN2.below hB
  have hL3 := hL2.below hB
  have hA3 := hA2.below hB
  have hb3 := hb2.trans (hB.mono hb2.size)
  have hal : Below w2.heap.size w2 (w2.alloc (.cells #[.int .i64 1, .int .i64 b, .string emp] 38)) := (Below.refl _ _).alloc (Nat.le_refl _) _
  have hC4 := Lies.new w2 ⟨1, b, emp⟩
  have hN4 := hN3.below hal
  have hL4 := hL3.below hal
  have hA4 := hA3.below hal
  have hb4 := hb3.trans (hal.mono hb3.size)
  clear a0 a1 a2 n0 n1 n2 n3 b0 b1 b2 b3 l1 l2 l3 hB hN2 hL2 hA2 hb2 hN3 hL3 hA3 hb3 hal hl1 hl2
  have l1 := hN4.lt
  have l2 := hL4.lt
  have l3 := hA4.lt
  have l4 := hC4.lt
  obtain ⟨n0, n1, n2, n3⟩ := hN4.at
  have a0 := hA4.c0
  have a1 := hA4.c1
  have a2 := hA4.c2
  have d0 := hC4.c0
  have d1 := hC4.c1
  have d2 := hC4.c2
  have c0 := hL4.c0
  have c1 := hL4.c1
  have c2 := hL4.c2
  have f0 := hL4.free 0
  have f1 := hL4.free 1
  have f2 := hL4.free 2
  go_wp2_with (fail)
  go_at_call 36
  refine (hc _).mono ?_
  rintro e w3 ⟨rfl, hB⟩
  have hN5 := hN4.below hB
  have hL5 := hL4.below hB
  have hb5 := hb4.trans (hB.mono hb4.size)
  clear hc hB
  go_wp2_with (fail)
  go_at_call 34
  refine (ht _).mono ?_
  rintro e w4 ⟨rfl, hB⟩
  have hL6 := hL5.below hB
  have hb6 := hb5.trans (hB.mono hb5.size)
  clear n0 n1 n2 n3 a0 a1 a2 d0 d1 d2 c0 c1 c2 f0 f1 f2 l1 l2 l3 l4 ht hB
  have l2 := hL6.lt
  have c0 := hL6.c0
  have c1 := hL6.c1
  have c2 := hL6.c2
  have f0 := hL6.free 0
  have f1 := hL6.free 1
  have f2 := hL6.free 2
  unfold vv
  go_wp2
  exact bodyPost_ret (v := wv (u, 0)) (rwork_res rfl rfl (hL6.set3 u)) rfl ⟨rfl, set3 hb6 (by omega) _ _ _⟩
set_option maxHeartbeats 1000000 in
theorem rwork_cmp2 (a b : Int) (m : Int) (g c : Nat) (t t' : ByteArray) (q q' fs rs : Value) (w : World) (hx : NodeAt w g 0 ⟨#[105, 110, 116]⟩ t a q) (hy : NodeAt w g 4 ⟨#[105, 110, 116]⟩ t' b q') :
    Calls Try.prog 15 #[nd ⟨#[98, 105, 110]⟩ ⟨#[60]⟩ m (.slice (some ⟨g, 0, none⟩) 2 c), fs, rs] w fun e w' => e = .returned (wv (tr (cmpO 2 (one (num a) (num b))), 0)) ∧ Below w.heap.size w w' := by
  obtain ⟨b', hb'⟩ : ∃ b', b' = cmpO 2 (one (num a) (num b)) := ⟨_, rfl⟩
  obtain ⟨u, hu⟩ : ∃ u, u = tr b' := ⟨_, rfl⟩
  rw [← hb', ← hu]
  have hc := fun W => rcompared_any 2 (by omega) (num a) (num b) W
  have ht := fun W => rtruth_any b' W
  rw [← hb'] at hc
  rw [← hu] at ht
  unfold cmpOS vv num at hc
  simp only at hc
  clear hb' hu
  have hN := lay2_box w ⟨#[98, 105, 110]⟩ ⟨#[60]⟩ m (.slice (some ⟨g, 0, none⟩) 2 c)
  have hL := lay2_lies w ⟨#[98, 105, 110]⟩ ⟨#[60]⟩ m (.slice (some ⟨g, 0, none⟩) 2 c)
  have hb := lay2_below w ⟨#[98, 105, 110]⟩ ⟨#[60]⟩ m (.slice (some ⟨g, 0, none⟩) 2 c)
  have hx0 := hx.below hb
  have hy0 := hy.below hb
  obtain ⟨a0, a1, a2, a3⟩ := hx0
  obtain ⟨n0, n1, n2, n3⟩ := hN.at
  have hl1 := fun W => rwork_int t a q fs rs W
  have hl2 := fun W => rwork_int t' b q' fs rs W
  unfold nd at hl1 hl2 ⊢
  unfold wv vv num at hl1 hl2
  simp only at hl1 hl2
  go_enter Try.func15, Try.ntmps15
  go_wp2_with (fail)
  go_at_call 15
  refine (hl1 _).mono ?_
  rintro e w1 ⟨rfl, hB⟩
  have hN1 := hN.below hB
  have hL1 := hL.below hB
  have hy1 := hy0.below hB
  have hb1 := hb.trans (hB.mono hb.size)
  have hal : Below w1.heap.size w1 (w1.alloc (.cells #[.int .i64 1, .int .i64 a, .string emp] 38)) := (Below.refl _ _).alloc (Nat.le_refl _) _
  have hA2 := Lies.new w1 ⟨1, a, emp⟩
  have hN2 := hN1.below hal
  have hL2 := hL1.below hal
  have hy2 := hy1.below hal
  have hb2 := hb1.trans (hal.mono hb1.size)
  clear a0 a1 a2 a3 n0 n1 n2 n3 hB hN hL hy0 hb hx hy hN1 hL1 hy1 hb1 hal
  have l1 := hN2.lt
  have l2 := hL2.lt
  have l3 := hA2.lt
  obtain ⟨n0, n1, n2, n3⟩ := hN2.at
  obtain ⟨b0, b1, b2, b3⟩ := hy2
  have a0 := hA2.c0
  have a1 := hA2.c1
  have a2 := hA2.c2
  go_wp2_with (fail)
  go_at_call 15
  refine (hl2 _).mono ?_
  rintro e w2 ⟨rfl, hB⟩
  have hN3 := hN2.below hB
  have hL3 := hL2.below hB
  have hA3 := hA2.below hB
  have hb3 := hb2.trans (hB.mono hb2.size)
  have hal : Below w2.heap.size w2 (w2.alloc (.cells #[.int .i64 1, .int .i64 b, .string emp] 38)) := (Below.refl _ _).alloc (Nat.le_refl _) _
  have hC4 := Lies.new w2 ⟨1, b, emp⟩
  have hN4 := hN3.below hal
  have hL4 := hL3.below hal
  have hA4 := hA3.below hal
  have hb4 := hb3.trans (hal.mono hb3.size)
  clear a0 a1 a2 n0 n1 n2 n3 b0 b1 b2 b3 l1 l2 l3 hB hN2 hL2 hA2 hb2 hN3 hL3 hA3 hb3 hal hl1 hl2
  have l1 := hN4.lt
  have l2 := hL4.lt
  have l3 := hA4.lt
  have l4 := hC4.lt
  obtain ⟨n0, n1, n2, n3⟩ := hN4.at
  have a0 := hA4.c0
  have a1 := hA4.c1
  have a2 := hA4.c2
  have d0 := hC4.c0
  have d1 := hC4.c1
  have d2 := hC4.c2
  have c0 := hL4.c0
  have c1 := hL4.c1
  have c2 := hL4.c2
  have f0 := hL4.free 0
  have f1 := hL4.free 1
  have f2 := hL4.free 2
  go_wp2_with (fail)
  go_at_call 36
  refine (hc _).mono ?_
  rintro e w3 ⟨rfl, hB⟩
  have hN5 := hN4.below hB
  have hL5 := hL4.below hB
  have hb5 := hb4.trans (hB.mono hb4.size)
  clear hc hB
  go_wp2_with (fail)
  go_at_call 34
  refine (ht _).mono ?_
  rintro e w4 ⟨rfl, hB⟩
  have hL6 := hL5.below hB
  have hb6 := hb5.trans (hB.mono hb5.size)
  clear n0 n1 n2 n3 a0 a1 a2 d0 d1 d2 c0 c1 c2 f0 f1 f2 l1 l2 l3 l4 ht hB
  have l2 := hL6.lt
  have c0 := hL6.c0
  have c1 := hL6.c1
  have c2 := hL6.c2
  have f0 := hL6.free 0
  have f1 := hL6.free 1
  have f2 := hL6.free 2
  unfold vv
  go_wp2
  exact bodyPost_ret (v := wv (u, 0)) (rwork_res rfl rfl (hL6.set3 u)) rfl ⟨rfl, set3 hb6 (by omega) _ _ _⟩
set_option maxHeartbeats 1000000 in
theorem rwork_cmp5 (a b : Int) (m : Int) (g c : Nat) (t t' : ByteArray) (q q' fs rs : Value) (w : World) (hx : NodeAt w g 0 ⟨#[105, 110, 116]⟩ t a q) (hy : NodeAt w g 4 ⟨#[105, 110, 116]⟩ t' b q') :
    Calls Try.prog 15 #[nd ⟨#[98, 105, 110]⟩ ⟨#[62, 61]⟩ m (.slice (some ⟨g, 0, none⟩) 2 c), fs, rs] w fun e w' => e = .returned (wv (tr (cmpO 5 (one (num a) (num b))), 0)) ∧ Below w.heap.size w w' := by
  obtain ⟨b', hb'⟩ : ∃ b', b' = cmpO 5 (one (num a) (num b)) := ⟨_, rfl⟩
  obtain ⟨u, hu⟩ : ∃ u, u = tr b' := ⟨_, rfl⟩
  rw [← hb', ← hu]
  have hc := fun W => rcompared_any 5 (by omega) (num a) (num b) W
  have ht := fun W => rtruth_any b' W
  rw [← hb'] at hc
  rw [← hu] at ht
  unfold cmpOS vv num at hc
  simp only at hc
  clear hb' hu
  have hN := lay2_box w ⟨#[98, 105, 110]⟩ ⟨#[62, 61]⟩ m (.slice (some ⟨g, 0, none⟩) 2 c)
  have hL := lay2_lies w ⟨#[98, 105, 110]⟩ ⟨#[62, 61]⟩ m (.slice (some ⟨g, 0, none⟩) 2 c)
  have hb := lay2_below w ⟨#[98, 105, 110]⟩ ⟨#[62, 61]⟩ m (.slice (some ⟨g, 0, none⟩) 2 c)
  have hx0 := hx.below hb
  have hy0 := hy.below hb
  obtain ⟨a0, a1, a2, a3⟩ := hx0
  obtain ⟨n0, n1, n2, n3⟩ := hN.at
  have hl1 := fun W => rwork_int t a q fs rs W
  have hl2 := fun W => rwork_int t' b q' fs rs W
  unfold nd at hl1 hl2 ⊢
  unfold wv vv num at hl1 hl2
  simp only at hl1 hl2
  go_enter Try.func15, Try.ntmps15
  go_wp2_with (fail)
  go_at_call 15
  refine (hl1 _).mono ?_
  rintro e w1 ⟨rfl, hB⟩
  have hN1 := hN.below hB
  have hL1 := hL.below hB
  have hy1 := hy0.below hB
  have hb1 := hb.trans (hB.mono hb.size)
  have hal : Below w1.heap.size w1 (w1.alloc (.cells #[.int .i64 1, .int .i64 a, .string emp] 38)) := (Below.refl _ _).alloc (Nat.le_refl _) _
  have hA2 := Lies.new w1 ⟨1, a, emp⟩
  have hN2 := hN1.below hal
  have hL2 := hL1.below hal
  have hy2 := hy1.below hal
  have hb2 := hb1.trans (hal.mono hb1.size)
  clear a0 a1 a2 a3 n0 n1 n2 n3 hB hN hL hy0 hb hx hy hN1 hL1 hy1 hb1 hal
  have l1 := hN2.lt
  have l2 := hL2.lt
  have l3 := hA2.lt
  obtain ⟨n0, n1, n2, n3⟩ := hN2.at
  obtain ⟨b0, b1, b2, b3⟩ := hy2
  have a0 := hA2.c0
  have a1 := hA2.c1
  have a2 := hA2.c2
  go_wp2_with (fail)
  go_at_call 15
  refine (hl2 _).mono ?_
  rintro e w2 ⟨rfl, hB⟩
  have hN3 := hN2.below hB
  have hL3 := hL2.below hB
  have hA3 := hA2.below hB
  have hb3 := hb2.trans (hB.mono hb2.size)
  have hal : Below w2.heap.size w2 (w2.alloc (.cells #[.int .i64 1, .int .i64 b, .string emp] 38)) := (Below.refl _ _).alloc (Nat.le_refl _) _
  have hC4 := Lies.new w2 ⟨1, b, emp⟩
  have hN4 := hN3.below hal
  have hL4 := hL3.below hal
  have hA4 := hA3.below hal
  have hb4 := hb3.trans (hal.mono hb3.size)
  clear a0 a1 a2 n0 n1 n2 n3 b0 b1 b2 b3 l1 l2 l3 hB hN2 hL2 hA2 hb2 hN3 hL3 hA3 hb3 hal hl1 hl2
  have l1 := hN4.lt
  have l2 := hL4.lt
  have l3 := hA4.lt
  have l4 := hC4.lt
  obtain ⟨n0, n1, n2, n3⟩ := hN4.at
  have a0 := hA4.c0
  have a1 := hA4.c1
  have a2 := hA4.c2
  have d0 := hC4.c0
  have d1 := hC4.c1
  have d2 := hC4.c2
  have c0 := hL4.c0
  have c1 := hL4.c1
  have c2 := hL4.c2
  have f0 := hL4.free 0
  have f1 := hL4.free 1
  have f2 := hL4.free 2
  go_wp2_with (fail)
  go_at_call 36
  refine (hc _).mono ?_
  rintro e w3 ⟨rfl, hB⟩
  have hN5 := hN4.below hB
  have hL5 := hL4.below hB
  have hb5 := hb4.trans (hB.mono hb4.size)
  clear hc hB
  go_wp2_with (fail)
  go_at_call 34
  refine (ht _).mono ?_
  rintro e w4 ⟨rfl, hB⟩
  have hL6 := hL5.below hB
  have hb6 := hb5.trans (hB.mono hb5.size)
  clear n0 n1 n2 n3 a0 a1 a2 d0 d1 d2 c0 c1 c2 f0 f1 f2 l1 l2 l3 l4 ht hB
  have l2 := hL6.lt
  have c0 := hL6.c0
  have c1 := hL6.c1
  have c2 := hL6.c2
  have f0 := hL6.free 0
  have f1 := hL6.free 1
  have f2 := hL6.free 2
  unfold vv
  go_wp2
  exact bodyPost_ret (v := wv (u, 0)) (rwork_res rfl rfl (hL6.set3 u)) rfl ⟨rfl, set3 hb6 (by omega) _ _ _⟩
end Go.Proofs.Yteedbhkofgkpoaa
