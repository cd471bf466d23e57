/-
  The closures of EvalLogic.
-/
import Derived.Test.YteedbhkofgkpoaaEvO
namespace Go.Proofs.Yteedbhkofgkpoaa
open Go.RowKit Ev
set_option maxRecDepth 100000
set_option linter.unusedVariables false
set_option linter.unusedSimpArgs false
theorem alloc_at (w : World) (o : Obj) (g : Nat) (hg : g = w.heap.size) : (w.alloc o).heap[g]? = some o := by rw [hg]; exact heap_alloc_new w o
abbrev oN (o t : ByteArray) (n : Int) (sl : Option Addr) (sn sc : Nat) : Obj := .cells #[.string o, .string t, .int .i64 n, .slice sl sn sc] 27
theorem not_any (o t : ByteArray) (n : Int) (sl : Option Addr) (sn sc : Nat) (w : World) : Calls Try.prog 18 #[.agg #[.string o, .string t, .int .i64 n, .slice sl sn sc]] w fun e w' => (∃ g, e = .returned (.agg #[.string ⟨#[110, 111, 116]⟩, .string ⟨#[]⟩, .int .i64 0, .slice (some ⟨g, 0, none⟩) 1 1]) ∧ NodeAt w' g 0 o t n (.slice sl sn sc)) ∧ Below w.heap.size w w' := by
  go_enter Try.func18, Try.ntmps18
  go_wp2
  have hN2 : Box (((w.alloc (oN o t n sl sn sc)).alloc (oN ⟨#[110, 111, 116]⟩ ⟨#[]⟩ 0 (some ⟨w.heap.size + 1 + 1, 0, none⟩) 1 1)).alloc (oN o t n sl sn sc)) (w.heap.size + 1 + 1) o t n (.slice sl sn sc) := alloc_at _ _ _ (by simp)
  have hN1 : Box (((w.alloc (oN o t n sl sn sc)).alloc (oN ⟨#[110, 111, 116]⟩ ⟨#[]⟩ 0 (some ⟨w.heap.size + 1 + 1, 0, none⟩) 1 1)).alloc (oN o t n sl sn sc)) (w.heap.size + 1) ⟨#[110, 111, 116]⟩ ⟨#[]⟩ 0 (.slice (some ⟨w.heap.size + 1 + 1, 0, none⟩) 1 1) :=
    (Lib.alloc_old _ _ _ (by simp)).trans (alloc_at _ _ _ (by simp))
  have hb := (((Below.refl w.heap.size w).alloc (Nat.le_refl _) (oN o t n sl sn sc)).alloc (by simp) (oN ⟨#[110, 111, 116]⟩ ⟨#[]⟩ 0 (some ⟨w.heap.size + 1 + 1, 0, none⟩) 1 1)).alloc (by simp; omega) (oN o t n sl sn sc)
  obtain ⟨b0, b1, b2, b3⟩ := hN1.at
  exact bodyPost_ret (v := .agg #[.string ⟨#[110, 111, 116]⟩, .string ⟨#[]⟩, .int .i64 0, .slice (some ⟨w.heap.size + 1 + 1, 0, none⟩) 1 1]) (by simp [results, Try.results18, go_sem, b0, b1, b2, b3]) rfl ⟨⟨_, rfl, hN2.at⟩, hb⟩
theorem two2_any (k : Nat) (hk : k = 5 ∨ k = 6) (x y : X) (hxy : Ok x ∧ Ok y) (o t o' t' : ByteArray) (n n' : Int) (sl sl' : Option Addr) (sn sc sn' sc' : Nat) (w : World) (hx : IsX w x o t n (.slice sl sn sc)) (hy : IsX w y o' t' n' (.slice sl' sn' sc')) :
    Calls Try.prog 19 #[.string (binS k), .agg #[.string o, .string t, .int .i64 n, .slice sl sn sc], .agg #[.string o', .string t', .int .i64 n', .slice sl' sn' sc']] w fun e w' => e = .returned (vv (workX (.bin k x y)).1) ∧ Below w.heap.size w w' := by
  obtain ⟨v, hv⟩ : ∃ v, v = (workX (.bin k x y)).1 := ⟨_, rfl⟩
  obtain ⟨f, hf⟩ : ∃ f, f = (workX (.bin k x y)).2 := ⟨_, rfl⟩
  have hvf : workX (.bin k x y) = (v, f) := by rw [hv, hf]
  have hb1 : Below w.heap.size w (w.alloc (.cells #[.string o, .string t, .int .i64 n, .slice sl sn sc] 27)) := (Below.refl _ _).alloc (Nat.le_refl _) _
  have hb2 := hb1.alloc (by simp) (.cells #[.string o', .string t', .int .i64 n', .slice sl' sn' sc'] 27)
  have hb3 := hb2.alloc (by simp; omega) (.cells #[.int .i64 0, .int .i64 0, .string ⟨#[]⟩] 38)
  have hb4 := hb3.alloc (by simp; omega) (.cells #[.string o, .string t, .int .i64 n, .slice sl sn sc, .string o', .string t', .int .i64 n', .slice sl' sn' sc'] 27)
  have hr := heap_alloc_new (((w.alloc (.cells #[.string o, .string t, .int .i64 n, .slice sl sn sc] 27)).alloc (.cells #[.string o', .string t', .int .i64 n', .slice sl' sn' sc'] 27)).alloc (.cells #[.int .i64 0, .int .i64 0, .string ⟨#[]⟩] 38)) (.cells #[.string o, .string t, .int .i64 n, .slice sl sn sc, .string o', .string t', .int .i64 n', .slice sl' sn' sc'] 27)
  have hl0 := Lies.new ((w.alloc (.cells #[.string o, .string t, .int .i64 n, .slice sl sn sc] 27)).alloc (.cells #[.string o', .string t', .int .i64 n', .slice sl' sn' sc'] 27)) ⟨0, 0, ⟨#[]⟩⟩
  have hl := hl0.alloc (.cells #[.string o, .string t, .int .i64 n, .slice sl sn sc, .string o', .string t', .int .i64 n', .slice sl' sn' sc'] 27)
  have hX : IsX _ (.bin k x y) ⟨#[98, 105, 110]⟩ (binS k) 0 (.slice (some ⟨w.heap.size + 1 + 1 + 1, 0, none⟩) 2 2) := pair_isx 0 (by simpa using hr) (hx.below hb4) (hy.below hb4)
  have hw := work_any (.bin k x y) ⟨by omega, hxy.1, hxy.2⟩ _ _ _ _ (.slice none 0 0) (.slice none 0 0) _ hX
  rw [hvf] at hw
  rw [← hv]
  obtain ⟨s, hs⟩ : ∃ s, s = binS k := ⟨_, rfl⟩
  rw [← hs] at hw ⊢
  unfold wv vv nd at hw
  clear hs hv hf hvf hX hr hl0 hb1 hb2 hb3 hx hy hxy hk
  go_enter Try.func19, Try.ntmps19
  go_wp2_with (fail)
  go_at_call 14
  refine hw.mono ?_
  rintro e w1 ⟨rfl, hC⟩
  have hL := hl.below hC
  have hb := hb4.trans (hC.mono hb4.size)
  clear hC hl hb4 hw
  have c0 := hL.c0
  have c1 := hL.c1
  have c2 := hL.c2
  have lt := hL.lt
  have f0 := hL.free 0
  have f1 := hL.free 1
  have f2 := hL.free 2
  simp only [World.size_alloc] at c0 c1 c2 lt f0 f1 f2
  go_wp2
  have hL2 : Lies w1 (w.heap.size + 1 + 1) ⟨0, 0, ⟨#[]⟩⟩ := by simpa using hL
  have hL3 := (hL2.set3 v).alloc (.cells #[.int .i64 v.k, .int .i64 v.n, .string v.s] 38)
  have hbe := (set3 (g := w.heap.size + 1 + 1) hb (by omega) (.int .i64 v.k) (.int .i64 v.n) (.string v.s)).alloc (by simpa using hb.size) (.cells #[.int .i64 v.k, .int .i64 v.n, .string v.s] 38)
  have d0 := hL3.c0
  have d1 := hL3.c1
  have d2 := hL3.c2
  exact bodyPost_ret (v := vv v) (by simp [results, Try.results19, go_sem, d0, d1, d2, vv]) rfl ⟨rfl, hbe⟩
end Go.Proofs.Yteedbhkofgkpoaa
