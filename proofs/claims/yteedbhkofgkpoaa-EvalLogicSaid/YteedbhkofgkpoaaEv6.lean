/-
  The walk of eval.Work at expressions without columns: numbers, truths, nulls, and ops of one operand.
-/
import Derived.Test.YteedbhkofgkpoaaEv5
namespace Go.Proofs.Yteedbhkofgkpoaa
open Go.RowKit Ev
set_option maxRecDepth 100000
set_option linter.unusedVariables false
set_option linter.unusedSimpArgs false
def WorkC (x : X) : Prop := ∀ (op text : ByteArray) (n : Int) (k fs rs : Value) (w : World), IsX w x op text n k → Calls Try.prog 14 #[nd op text n k, fs, rs] w fun e w' => e = .returned (wv (workX x)) ∧ Below w.heap.size w w'
/-- A node lies whole in block g. -/
def Box (w : World) (g : Nat) (op text : ByteArray) (n : Int) (k : Value) : Prop := w.heap[g]? = some (.cells #[.string op, .string text, .int .i64 n, k] 27 (0, 0))
theorem Box.below {w w' : World} {g : Nat} {op text : ByteArray} {n : Int} {k : Value} (h : Box w g op text n k) (hb : Below w.heap.size w w') : Box w' g op text n k := (hb.block g (Array.getElem?_eq_some_iff.1 h).1).trans h
theorem Box.at {w : World} {g : Nat} {op text : ByteArray} {n : Int} {k : Value} (h : Box w g op text n k) : NodeAt w g 0 op text n k :=
  ⟨by rw [Lib.cell_of_heap h]; rfl, by rw [Lib.cell_of_heap h]; rfl, by rw [Lib.cell_of_heap h]; rfl, by rw [Lib.cell_of_heap h]; rfl⟩
theorem Box.lt {w : World} {g : Nat} {op text : ByteArray} {n : Int} {k : Value} (h : Box w g op text n k) : g < w.heap.size := (Array.getElem?_eq_some_iff.1 h).1
theorem Lies.lt {w : World} {g : Nat} {v : Vl} (h : Lies w g v) : g < w.heap.size := (Array.getElem?_eq_some_iff.1 h).1
theorem Lies.free {w : World} {g : Nat} {v : Vl} (h : Lies w g v) (i : Nat) : w.frozen? ⟨g, i, none⟩ = false := Lib.frozen_of_heap h i
theorem set3 {B : Nat} {w w1 : World} (h : Below B w w1) {g : Nat} (hg : B ≤ g) (a b c : Value) : Below B w (((w1.setCell ⟨g, 0, none⟩ a).setCell ⟨g, 1, none⟩ b).setCell ⟨g, 2, none⟩ c) :=
  ((h.setCell (p := ⟨g, 0, none⟩) hg _).setCell (p := ⟨g, 1, none⟩) hg _).setCell (p := ⟨g, 2, none⟩) hg _
/-- The worlds in which a node and a value have just been laid. -/
abbrev lay2 (w : World) (op text : ByteArray) (n : Int) (k : Value) : World := (w.alloc (.cells #[.string op, .string text, .int .i64 n, k] 27)).alloc (.cells #[.int .i64 0, .int .i64 0, .string ⟨#[]⟩] 38)
theorem lay2_below (w : World) (op text : ByteArray) (n : Int) (k : Value) : Below w.heap.size w (lay2 w op text n k) := ((Below.refl _ _).alloc (Nat.le_refl _) _).alloc (by simp) _
theorem lay2_size (w : World) (op text : ByteArray) (n : Int) (k : Value) : (lay2 w op text n k).heap.size = w.heap.size + 2 := by simp [lay2]
theorem lay2_box (w : World) (op text : ByteArray) (n : Int) (k : Value) : Box (lay2 w op text n k) w.heap.size op text n k := by
  unfold Box
  rw [lay2, Lib.alloc_old _ _ _ (by simp)]
  exact heap_alloc_new w _
theorem lay2_lies (w : World) (op text : ByteArray) (n : Int) (k : Value) : Lies (lay2 w op text n k) (w.heap.size + 1) nul := by
  have h := heap_alloc_new (w.alloc (.cells #[.string op, .string text, .int .i64 n, k] 27)) (.cells #[.int .i64 0, .int .i64 0, .string ⟨#[]⟩] 38)
  unfold Lies lay2 nul
  simpa using h
theorem Lies.set3 {w : World} {g : Nat} {u : Vl} (h : Lies w g u) (v : Vl) : Lies (((w.setCell ⟨g, 0, none⟩ (.int .i64 v.k)).setCell ⟨g, 1, none⟩ (.int .i64 v.n)).setCell ⟨g, 2, none⟩ (.string v.s)) g v := by
  unfold Lies at *
  simp [World.setCell, Array.getElem?_modify, h]
theorem Lies.set_far {w : World} {g g' : Nat} {u : Vl} (h : Lies w g u) (hne : g' ≠ g) (a b c : Value) : Lies (((w.setCell ⟨g', 0, none⟩ a).setCell ⟨g', 1, none⟩ b).setCell ⟨g', 2, none⟩ c) g u := by
  unfold Lies at *
  simp [World.setCell, Array.getElem?_modify, h, hne]
theorem Lies.alloc {w : World} {g : Nat} {u : Vl} (h : Lies w g u) (o : Obj) : Lies (w.alloc o) g u := (Lib.alloc_old w o g h.lt).trans h
theorem work_res {tmps : Array Value} {W : World} {g : Nat} {v : Vl} {f : Int} (h6 : tmps.getD 6 undef = .pointer (some ⟨g, 0, none⟩)) (h7 : tmps.getD 7 undef = .int .i64 f) (h : Lies W g v) :
    (results Try.f14 tmps).run Try.prog W = .ok (wv (v, f)) W := by
  have c0 := h.c0
  have c1 := h.c1
  have c2 := h.c2
  have h6' : tmps[6]?.getD undef = .pointer (some ⟨g, 0, none⟩) := by simpa using h6
  have h7' : tmps[7]?.getD undef = .int .i64 f := by simpa using h7
  simp [results, Try.results14, go_sem, h6', h7', c0, c1, c2, wv, vv]
theorem Box.alloc {w : World} {g : Nat} {op text : ByteArray} {n : Int} {k : Value} (h : Box w g op text n k) (o : Obj) : Box (w.alloc o) g op text n k := (Lib.alloc_old w o g h.lt).trans h
theorem vl_zero {v : Vl} (h : v.k = 0) : (⟨0, v.n, v.s⟩ : Vl) = v := by
  cases v
  simp only at h
  rw [h]
theorem work_int (n : Int) : WorkC (.int n) := by
  intro op text m k fs rs w hx
  obtain ⟨rfl, rfl⟩ := hx
  unfold nd
  go_enter Try.func14, Try.ntmps14
  go_wp2
  exact bodyPost_ret (v := wv (workX (.int m))) (by simp [results, Try.results14, go_sem, vv, wv, num, workX]) rfl ⟨rfl, ((Below.refl _ _).alloc (Nat.le_refl _) _).alloc (by simp) _⟩
theorem work_null : WorkC .null := by
  intro op text m k fs rs w hx
  obtain rfl := hx
  unfold nd
  go_enter Try.func14, Try.ntmps14
  go_wp2
  exact bodyPost_ret (v := wv (workX .null)) (by simp [results, Try.results14, go_sem, vv, wv, nul, workX]) rfl ⟨rfl, ((Below.refl _ _).alloc (Nat.le_refl _) _).alloc (by simp) _⟩
theorem work_bool (n : Int) : WorkC (.bool n) := by
  intro op text m k fs rs w hx
  obtain ⟨rfl, rfl⟩ := hx
  unfold nd
  obtain ⟨v, hv⟩ : ∃ v, v = tr (m == 1) := ⟨_, rfl⟩
  have hw : workX (.bool m) = (v, 0) := by rw [hv]; rfl
  have htr := truth_any (m == 1)
  rw [hw]
  rw [← hv] at htr
  clear hw hv
  go_enter Try.func14, Try.ntmps14
  go_wp2_with (fail)
  go_at_call 30
  refine (htr _).mono ?_
  rintro e w1 ⟨rfl, hB⟩
  have hl := (lay2_lies w ⟨#[98, 111, 111, 108]⟩ text m k).below hB
  have hb := (lay2_below w ⟨#[98, 111, 111, 108]⟩ text m k).trans (hB.mono (by simp; omega))
  have c0 := hl.c0
  have c1 := hl.c1
  have c2 := hl.c2
  have f0 := hl.free 0
  have f1 := hl.free 1
  have f2 := hl.free 2
  clear hB
  unfold vv
  go_wp2
  exact bodyPost_ret (v := wv (v, 0)) (work_res rfl rfl (hl.set3 v)) rfl ⟨rfl, set3 hb (by omega) _ _ _⟩
theorem shaped_isnull (text : ByteArray) (n : Int) (o : Option Addr) (c : Nat) (w : World) : Calls Try.prog 23 #[nd ⟨#[105, 115, 110, 117, 108, 108]⟩ text n (.slice o 1 c)] w fun e w' => e = .returned (.bool true) ∧ Below w.heap.size w w' := by
  unfold nd
  go_enter Try.func23, Try.ntmps23
  go_wp2
  go_ret
  exact ⟨rfl, (Below.refl _ _).alloc (Nat.le_refl _) _⟩
theorem shaped_not (text : ByteArray) (n : Int) (o : Option Addr) (c : Nat) (w : World) : Calls Try.prog 23 #[nd ⟨#[110, 111, 116]⟩ text n (.slice o 1 c)] w fun e w' => e = .returned (.bool true) ∧ Below w.heap.size w w' := by
  unfold nd
  go_enter Try.func23, Try.ntmps23
  go_wp2
  go_ret
  exact ⟨rfl, (Below.refl _ _).alloc (Nat.le_refl _) _⟩
theorem shaped_neg (text : ByteArray) (n : Int) (o : Option Addr) (c : Nat) (w : World) : Calls Try.prog 23 #[nd ⟨#[110, 101, 103]⟩ text n (.slice o 1 c)] w fun e w' => e = .returned (.bool true) ∧ Below w.heap.size w w' := by
  unfold nd
  go_enter Try.func23, Try.ntmps23
  go_wp2
  go_ret
  exact ⟨rfl, (Below.refl _ _).alloc (Nat.le_refl _) _⟩
theorem shaped_bin (text : ByteArray) (n : Int) (o : Option Addr) (c : Nat) (w : World) : Calls Try.prog 23 #[nd ⟨#[98, 105, 110]⟩ text n (.slice o 2 c)] w fun e w' => e = .returned (.bool true) ∧ Below w.heap.size w w' := by
  unfold nd
  go_enter Try.func23, Try.ntmps23
  go_wp2
  go_ret
  exact ⟨rfl, (Below.refl _ _).alloc (Nat.le_refl _) _⟩
set_option maxHeartbeats 1000000 in
theorem work_isnull (x : X) (ih : WorkC x) : WorkC (.isnull x) := by
  intro op text m k fs rs w hx
  obtain ⟨rfl, g, c, o, t, n, q, rfl, ha, hx⟩ := hx
  obtain ⟨v, hv⟩ : ∃ v, v = (workX x).1 := ⟨_, rfl⟩
  obtain ⟨f, hf⟩ : ∃ f, f = (workX x).2 := ⟨_, rfl⟩
  have hxv : workX x = (v, f) := by rw [hv, hf]
  have hw : workX (.isnull x) = (if f ≠ 0 then (nul, f) else (tr (v.k == 0), 0)) := by rw [workX, hxv]
  rw [hw]
  have hih : ∀ W, IsX W x o t n q → Calls Try.prog 14 #[nd o t n q, fs, rs] W fun e w' => e = .returned (wv (v, f)) ∧ Below W.heap.size W w' := fun W h => by
    rw [← hxv]; exact ih o t n q fs rs W h
  clear hw hv hf ih
  unfold nd
  go_enter Try.func14, Try.ntmps14
  go_wp2_with (fail)
  go_at_call 23
  refine (shaped_isnull text m _ c _).mono ?_
  rintro e w1 ⟨rfl, hB⟩
  have hN := (lay2_box w ⟨#[105, 115, 110, 117, 108, 108]⟩ text m (.slice (some ⟨g, 0, none⟩) 1 c)).below hB
  have hL := (lay2_lies w ⟨#[105, 115, 110, 117, 108, 108]⟩ text m (.slice (some ⟨g, 0, none⟩) 1 c)).below hB
  have hb := (lay2_below w ⟨#[105, 115, 110, 117, 108, 108]⟩ text m (.slice (some ⟨g, 0, none⟩) 1 c)).trans (hB.mono (by simp; omega))
  clear hB
  obtain ⟨a0, a1, a2, a3⟩ := ha.below hb
  obtain ⟨n0, n1, n2, n3⟩ := hN.at
  go_wp2_with (fail)
  go_at_call 14
  refine (hih w1 (hx.below hb)).mono ?_
  rintro e w2 ⟨rfl, hB2⟩
  have hb2 := hb.trans (hB2.mono hb.size)
  have hN2 := hN.below hB2
  have hL2 := hL.below hB2
  clear a0 a1 a2 a3 n0 n1 n2 n3 hB2 hN hL hb hx ha hih
  have l1 := hN2.lt
  have l2 := hL2.lt
  obtain ⟨n0, n1, n2, n3⟩ := hN2.at
  have c0 := hL2.c0
  have c1 := hL2.c1
  have c2 := hL2.c2
  have f0 := hL2.free 0
  have f1 := hL2.free 1
  have f2 := hL2.free 2
  unfold wv vv
  by_cases hf0 : f ≠ 0
  · have hfb : (f != 0) = true := bne_iff_ne.2 hf0
    go_wp2
    exact bodyPost_ret (v := wv (nul, f)) (work_res rfl rfl ((hL2.set3 nul).alloc _)) rfl ⟨rfl, (set3 hb2 (by omega) _ _ _).alloc (by simpa using hb2.size) _⟩
  · obtain rfl : f = 0 := by omega
    clear hf0
    go_wp2_with (fail)
    go_at_call 31
    refine (null_any v _).mono ?_
    rintro e w3 ⟨rfl, hB3⟩
    clear n0 n1 n2 n3 c0 c1 c2 f0 f1 f2 l1 l2
    have hN3 := (hN2.alloc _).below hB3
    have hL3 := (hL2.alloc _).below hB3
    have hA3 := (Lies.new w2 v).below hB3
    have hb3 := (hb2.alloc hb2.size _).trans (hB3.mono (by have := hb2.size; simp; omega))
    clear hB3 hN2 hL2 hb2
    have l1 := hN3.lt
    have l2 := hL3.lt
    have l3 := hA3.lt
    obtain ⟨n0, n1, n2, n3⟩ := hN3.at
    have c0 := hL3.c0
    have c1 := hL3.c1
    have c2 := hL3.c2
    have f0 := hL3.free 0
    have f1 := hL3.free 1
    have f2 := hL3.free 2
    have a0 := hA3.c0
    have a1 := hA3.c1
    have a2 := hA3.c2
    obtain ⟨u, hu⟩ : ∃ u, u = tr (v.k == 0) := ⟨_, rfl⟩
    have htr := truth_any (v.k == 0)
    rw [← hu] at htr
    have HU := Lib.hid hu
    clear hu
    go_wp2_with (fail)
    go_at_call 30
    refine (htr _).mono ?_
    rintro e w4 ⟨rfl, hB4⟩
    clear n0 n1 n2 n3 c0 c1 c2 f0 f1 f2 l1 l2 l3 a0 a1 a2
    have hN4 := hN3.below hB4
    have hL4 := hL3.below hB4
    have hA4 := hA3.below hB4
    have hb4 := hb3.trans (hB4.mono hb3.size)
    clear hB4 hN3 hL3 hb3 hA3
    have l1 := hN4.lt
    have l2 := hL4.lt
    have l3 := hA4.lt
    obtain ⟨n0, n1, n2, n3⟩ := hN4.at
    have c0 := hL4.c0
    have c1 := hL4.c1
    have c2 := hL4.c2
    have f0 := hL4.free 0
    have f1 := hL4.free 1
    have f2 := hL4.free 2
    have a0 := hA4.c0
    have a1 := hA4.c1
    have a2 := hA4.c2
    unfold vv
    clear htr
    go_wp2
    exact bodyPost_ret (v := wv (u, 0)) (work_res rfl rfl (hL4.set3 _)) rfl ⟨by rw [HU.out], set3 hb4 (by omega) _ _ _⟩
set_option maxHeartbeats 1000000 in
theorem work_not (x : X) (ih : WorkC x) : WorkC (.not x) := by
  intro op text m k fs rs w hx
  obtain ⟨rfl, g, c, o, t, n, q, rfl, ha, hx⟩ := hx
  obtain ⟨v, hv⟩ : ∃ v, v = (workX x).1 := ⟨_, rfl⟩
  obtain ⟨f, hf⟩ : ∃ f, f = (workX x).2 := ⟨_, rfl⟩
  have hxv : workX x = (v, f) := by rw [hv, hf]
  have hw : workX (.not x) = (if f ≠ 0 then (nul, f) else if v.k = 0 then (v, 0) else (tr (v.n == 0), 0)) := by rw [workX, hxv]
  rw [hw]
  have hih : ∀ W, IsX W x o t n q → Calls Try.prog 14 #[nd o t n q, fs, rs] W fun e w' => e = .returned (wv (v, f)) ∧ Below W.heap.size W w' := fun W h => by
    rw [← hxv]; exact ih o t n q fs rs W h
  clear hw hv hf ih
  unfold nd
  go_enter Try.func14, Try.ntmps14
  go_wp2_with (fail)
  go_at_call 23
  refine (shaped_not text m _ c _).mono ?_
  rintro e w1 ⟨rfl, hB⟩
  have hN := (lay2_box w ⟨#[110, 111, 116]⟩ text m (.slice (some ⟨g, 0, none⟩) 1 c)).below hB
  have hL := (lay2_lies w ⟨#[110, 111, 116]⟩ text m (.slice (some ⟨g, 0, none⟩) 1 c)).below hB
  have hb := (lay2_below w ⟨#[110, 111, 116]⟩ text m (.slice (some ⟨g, 0, none⟩) 1 c)).trans (hB.mono (by simp; omega))
  clear hB
  obtain ⟨a0, a1, a2, a3⟩ := ha.below hb
  obtain ⟨n0, n1, n2, n3⟩ := hN.at
  go_wp2_with (fail)
  go_at_call 14
  refine (hih w1 (hx.below hb)).mono ?_
  rintro e w2 ⟨rfl, hB2⟩
  have hb2 := hb.trans (hB2.mono hb.size)
  have hN2 := hN.below hB2
  have hL2 := hL.below hB2
  clear a0 a1 a2 a3 n0 n1 n2 n3 hB2 hN hL hb hx ha hih
  have l1 := hN2.lt
  have l2 := hL2.lt
  obtain ⟨n0, n1, n2, n3⟩ := hN2.at
  have c0 := hL2.c0
  have c1 := hL2.c1
  have c2 := hL2.c2
  have f0 := hL2.free 0
  have f1 := hL2.free 1
  have f2 := hL2.free 2
  unfold wv vv
  by_cases hf0 : f ≠ 0
  · have hfb : (f != 0) = true := bne_iff_ne.2 hf0
    go_wp2
    exact bodyPost_ret (v := wv (nul, f)) (work_res rfl rfl ((hL2.set3 nul).alloc _)) rfl ⟨rfl, (set3 hb2 (by omega) _ _ _).alloc (by simpa using hb2.size) _⟩
  · obtain rfl : f = 0 := by omega
    clear hf0
    by_cases hk : v.k = 0
    · have hkb : (v.k == 0) = true := beq_iff_eq.2 hk
      have HK := Lib.hid hk
      clear hk
      go_wp2_with (fail)
      go_at_call 31
      refine (null_any v _).mono ?_
      rintro e w3 ⟨rfl, hB3⟩
      clear n0 n1 n2 n3 c0 c1 c2 f0 f1 f2 l1 l2
      have hN3 := (hN2.alloc _).below hB3
      have hL3 := (hL2.alloc _).below hB3
      have hA3 := (Lies.new w2 v).below hB3
      have hb3 := (hb2.alloc hb2.size _).trans (hB3.mono (by have := hb2.size; simp; omega))
      clear hB3 hN2 hL2 hb2
      have l1 := hN3.lt
      have l2 := hL3.lt
      have l3 := hA3.lt
      obtain ⟨n0, n1, n2, n3⟩ := hN3.at
      have c0 := hL3.c0
      have c1 := hL3.c1
      have c2 := hL3.c2
      have f0 := hL3.free 0
      have f1 := hL3.free 1
      have f2 := hL3.free 2
      have a0 := hA3.c0
      have a1 := hA3.c1
      have a2 := hA3.c2
      go_wp2
      exact bodyPost_ret (v := wv (⟨0, v.n, v.s⟩, 0)) (work_res rfl rfl (hL3.set3 ⟨0, v.n, v.s⟩)) rfl ⟨by rw [vl_zero HK.out], set3 hb3 (by omega) _ _ _⟩
    · have hkb : (v.k == 0) = false := beq_eq_false_iff_ne.2 hk
      have HK := Lib.hid hk
      clear hk
      go_wp2_with (fail)
      go_at_call 31
      refine (null_any v _).mono ?_
      rintro e w3 ⟨rfl, hB3⟩
      clear n0 n1 n2 n3 c0 c1 c2 f0 f1 f2 l1 l2
      have hN3 := (hN2.alloc _).below hB3
      have hL3 := (hL2.alloc _).below hB3
      have hA3 := (Lies.new w2 v).below hB3
      have hb3 := (hb2.alloc hb2.size _).trans (hB3.mono (by have := hb2.size; simp; omega))
      clear hB3 hN2 hL2 hb2
      have l1 := hN3.lt
      have l2 := hL3.lt
      have l3 := hA3.lt
      obtain ⟨n0, n1, n2, n3⟩ := hN3.at
      have c0 := hL3.c0
      have c1 := hL3.c1
      have c2 := hL3.c2
      have f0 := hL3.free 0
      have f1 := hL3.free 1
      have f2 := hL3.free 2
      have a0 := hA3.c0
      have a1 := hA3.c1
      have a2 := hA3.c2
      obtain ⟨u, hu⟩ : ∃ u, u = tr (v.n == 0) := ⟨_, rfl⟩
      have htr := truth_any (v.n == 0)
      rw [← hu] at htr
      have HU := Lib.hid hu
      clear hu
      go_wp2_with (fail)
      go_at_call 30
      refine (htr _).mono ?_
      rintro e w4 ⟨rfl, hB4⟩
      clear n0 n1 n2 n3 c0 c1 c2 f0 f1 f2 l1 l2 l3 a0 a1 a2
      have hN4 := hN3.below hB4
      have hL4 := hL3.below hB4
      have hA4 := hA3.below hB4
      have hb4 := hb3.trans (hB4.mono hb3.size)
      clear hB4 hN3 hL3 hb3 hA3
      have l1 := hN4.lt
      have l2 := hL4.lt
      have l3 := hA4.lt
      obtain ⟨n0, n1, n2, n3⟩ := hN4.at
      have c0 := hL4.c0
      have c1 := hL4.c1
      have c2 := hL4.c2
      have f0 := hL4.free 0
      have f1 := hL4.free 1
      have f2 := hL4.free 2
      have a0 := hA4.c0
      have a1 := hA4.c1
      have a2 := hA4.c2
      unfold vv
      clear htr
      go_wp2
      exact bodyPost_ret (v := wv (u, 0)) (work_res rfl rfl (hL4.set3 _)) rfl ⟨by first | (rw [HU.out]) | (rw [if_neg HK.out, HU.out]), set3 hb4 (by omega) _ _ _⟩
set_option maxHeartbeats 1000000 in
theorem work_neg (x : X) (ih : WorkC x) (hin : In64 (workX x).1.n) : WorkC (.neg x) := by
  intro op text m k fs rs w hx
  obtain ⟨rfl, g, c, o, t, n, q, rfl, ha, hx⟩ := hx
  obtain ⟨v, hv⟩ : ∃ v, v = (workX x).1 := ⟨_, rfl⟩
  obtain ⟨f, hf⟩ : ∃ f, f = (workX x).2 := ⟨_, rfl⟩
  have hxv : workX x = (v, f) := by rw [hv, hf]
  have hw : workX (.neg x) = (if f ≠ 0 then (nul, f) else if v.k = 0 then (v, 0) else numd 1 0 v.n) := by rw [workX, hxv]
  rw [hw]
  have hih : ∀ W, IsX W x o t n q → Calls Try.prog 14 #[nd o t n q, fs, rs] W fun e w' => e = .returned (wv (v, f)) ∧ Below W.heap.size W w' := fun W h => by
    rw [← hxv]; exact ih o t n q fs rs W h
  rw [hxv] at hin
  clear hw hv hf ih
  unfold nd
  go_enter Try.func14, Try.ntmps14
  go_wp2_with (fail)
  go_at_call 23
  refine (shaped_neg text m _ c _).mono ?_
  rintro e w1 ⟨rfl, hB⟩
  have hN := (lay2_box w ⟨#[110, 101, 103]⟩ text m (.slice (some ⟨g, 0, none⟩) 1 c)).below hB
  have hL := (lay2_lies w ⟨#[110, 101, 103]⟩ text m (.slice (some ⟨g, 0, none⟩) 1 c)).below hB
  have hb := (lay2_below w ⟨#[110, 101, 103]⟩ text m (.slice (some ⟨g, 0, none⟩) 1 c)).trans (hB.mono (by simp; omega))
  clear hB
  obtain ⟨a0, a1, a2, a3⟩ := ha.below hb
  obtain ⟨n0, n1, n2, n3⟩ := hN.at
  go_wp2_with (fail)
  go_at_call 14
  refine (hih w1 (hx.below hb)).mono ?_
  rintro e w2 ⟨rfl, hB2⟩
  have hb2 := hb.trans (hB2.mono hb.size)
  have hN2 := hN.below hB2
  have hL2 := hL.below hB2
  clear a0 a1 a2 a3 n0 n1 n2 n3 hB2 hN hL hb hx ha hih
  have l1 := hN2.lt
  have l2 := hL2.lt
  obtain ⟨n0, n1, n2, n3⟩ := hN2.at
  have c0 := hL2.c0
  have c1 := hL2.c1
  have c2 := hL2.c2
  have f0 := hL2.free 0
  have f1 := hL2.free 1
  have f2 := hL2.free 2
  unfold wv vv
  by_cases hf0 : f ≠ 0
  · have hfb : (f != 0) = true := bne_iff_ne.2 hf0
    go_wp2
    exact bodyPost_ret (v := wv (nul, f)) (work_res rfl rfl ((hL2.set3 nul).alloc _)) rfl ⟨rfl, (set3 hb2 (by omega) _ _ _).alloc (by simpa using hb2.size) _⟩
  · obtain rfl : f = 0 := by omega
    clear hf0
    by_cases hk : v.k = 0
    · have hkb : (v.k == 0) = true := beq_iff_eq.2 hk
      have HK := Lib.hid hk
      clear hk
      go_wp2_with (fail)
      go_at_call 31
      refine (null_any v _).mono ?_
      rintro e w3 ⟨rfl, hB3⟩
      clear n0 n1 n2 n3 c0 c1 c2 f0 f1 f2 l1 l2
      have hN3 := (hN2.alloc _).below hB3
      have hL3 := (hL2.alloc _).below hB3
      have hA3 := (Lies.new w2 v).below hB3
      have hb3 := (hb2.alloc hb2.size _).trans (hB3.mono (by have := hb2.size; simp; omega))
      clear hB3 hN2 hL2 hb2
      have l1 := hN3.lt
      have l2 := hL3.lt
      have l3 := hA3.lt
      obtain ⟨n0, n1, n2, n3⟩ := hN3.at
      have c0 := hL3.c0
      have c1 := hL3.c1
      have c2 := hL3.c2
      have f0 := hL3.free 0
      have f1 := hL3.free 1
      have f2 := hL3.free 2
      have a0 := hA3.c0
      have a1 := hA3.c1
      have a2 := hA3.c2
      go_wp2
      exact bodyPost_ret (v := wv (⟨0, v.n, v.s⟩, 0)) (work_res rfl rfl (hL3.set3 ⟨0, v.n, v.s⟩)) rfl ⟨by rw [vl_zero HK.out], set3 hb3 (by omega) _ _ _⟩
    · have hkb : (v.k == 0) = false := beq_eq_false_iff_ne.2 hk
      have HK := Lib.hid hk
      clear hk
      go_wp2_with (fail)
      go_at_call 31
      refine (null_any v _).mono ?_
      rintro e w3 ⟨rfl, hB3⟩
      clear n0 n1 n2 n3 c0 c1 c2 f0 f1 f2 l1 l2
      have hN3 := (hN2.alloc _).below hB3
      have hL3 := (hL2.alloc _).below hB3
      have hA3 := (Lies.new w2 v).below hB3
      have hb3 := (hb2.alloc hb2.size _).trans (hB3.mono (by have := hb2.size; simp; omega))
      clear hB3 hN2 hL2 hb2
      have l1 := hN3.lt
      have l2 := hL3.lt
      have l3 := hA3.lt
      obtain ⟨n0, n1, n2, n3⟩ := hN3.at
      have c0 := hL3.c0
      have c1 := hL3.c1
      have c2 := hL3.c2
      have f0 := hL3.free 0
      have f1 := hL3.free 1
      have f2 := hL3.free 2
      have a0 := hA3.c0
      have a1 := hA3.c1
      have a2 := hA3.c2
      obtain ⟨u, hu⟩ : ∃ u, u = numd 1 0 v.n := ⟨_, rfl⟩
      have htr := numbered_any 1 (by omega) 0 v.n
      rw [← hu] at htr
      have HU := Lib.hid hu
      clear hu
      obtain ⟨u1, u2⟩ := u
      go_wp2_with (fail)
      go_at_call 33
      refine (htr _ (by unfold In64; omega) hin).mono ?_
      rintro e w4 ⟨rfl, hB4⟩
      clear n0 n1 n2 n3 c0 c1 c2 f0 f1 f2 l1 l2 l3 a0 a1 a2
      have hN4 := hN3.below hB4
      have hL4 := hL3.below hB4
      have hA4 := hA3.below hB4
      have hb4 := hb3.trans (hB4.mono hb3.size)
      clear hB4 hN3 hL3 hb3 hA3
      have l1 := hN4.lt
      have l2 := hL4.lt
      have l3 := hA4.lt
      obtain ⟨n0, n1, n2, n3⟩ := hN4.at
      have c0 := hL4.c0
      have c1 := hL4.c1
      have c2 := hL4.c2
      have f0 := hL4.free 0
      have f1 := hL4.free 1
      have f2 := hL4.free 2
      have a0 := hA4.c0
      have a1 := hA4.c1
      have a2 := hA4.c2
      unfold wv vv
      clear htr
      go_wp2
      exact bodyPost_ret (v := wv (u1, u2)) (work_res rfl rfl (hL4.set3 _)) rfl ⟨by first | (rw [HU.out]) | (rw [if_neg HK.out, HU.out]), set3 hb4 (by omega) _ _ _⟩
end Go.Proofs.Yteedbhkofgkpoaa
