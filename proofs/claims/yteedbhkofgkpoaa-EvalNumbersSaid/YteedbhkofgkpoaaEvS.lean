/-
  The law EvalNumbers: what its calls answer, in plain words.
-/
import Derived.Test.YteedbhkofgkpoaaEvP
import Derived.Test.YteedbhkofgkpoaaEvR
namespace Go.Proofs.Yteedbhkofgkpoaa
open Go.RowKit Ev
set_option maxRecDepth 100000
set_option linter.unusedVariables false
set_option linter.unusedSimpArgs false
theorem nums_worked (k : Nat) (hk : k < 5) (x y : Int) : workX (.bin k (.int x) (.int y)) = numd k x y := by
  have h0 : two k (num x) (num y, 0) = numd k x y := by
    unfold two num
    simp [hk]
    omega
  show (if (0 : Int) ≠ 0 then (nul, 0) else two k (num x) (num y, 0)) = _
  rw [if_neg (by simp), h0]
/-- A node of two numbers, worked by the program. -/
def Wk (k : Nat) (s : ByteArray) (x y : Int) (v : Vl) (f : Int) : Prop :=
  (∀ W, Calls Try.prog 17 #[.string s, .int .i64 x, .int .i64 y] W fun e w' => (∃ g, e = .returned (.agg #[.string ⟨#[98, 105, 110]⟩, .string s, .int .i64 0, .slice (some ⟨g, 0, none⟩) 2 2]) ∧ IsX w' (.bin k (.int x) (.int y)) ⟨#[98, 105, 110]⟩ (binS k) 0 (.slice (some ⟨g, 0, none⟩) 2 2)) ∧ Below W.heap.size W w') ∧
  (∀ g W, IsX W (.bin k (.int x) (.int y)) ⟨#[98, 105, 110]⟩ (binS k) 0 (.slice (some ⟨g, 0, none⟩) 2 2) → Calls Try.prog 14 #[.agg #[.string ⟨#[98, 105, 110]⟩, .string s, .int .i64 0, .slice (some ⟨g, 0, none⟩) 2 2], .slice none 0 0, .slice none 0 0] W fun e w' => e = .returned (.tuple #[.agg #[.int .i64 v.k, .int .i64 v.n, .string v.s], .int .i64 f]) ∧ Below W.heap.size W w')
/-- .. and by the reference. -/
def Rk (k : Nat) (s : ByteArray) (x y : Int) (v : Vl) (f : Int) : Prop :=
  ∀ g W, IsX W (.bin k (.int x) (.int y)) ⟨#[98, 105, 110]⟩ (binS k) 0 (.slice (some ⟨g, 0, none⟩) 2 2) → Calls Try.prog 15 #[.agg #[.string ⟨#[98, 105, 110]⟩, .string s, .int .i64 0, .slice (some ⟨g, 0, none⟩) 2 2], .slice none 0 0, .slice none 0 0] W fun e w' => e = .returned (.tuple #[.agg #[.int .i64 v.k, .int .i64 v.n, .string v.s], .int .i64 f]) ∧ Below W.heap.size W w'
theorem wk_of (k : Nat) (hk : k ≤ 12) (x y : Int) (hx : In64 x) (hy : In64 y) (v : Vl) (f : Int) (h : workX (.bin k (.int x) (.int y)) = (v, f)) : Wk k (binS k) x y v f := by
  refine ⟨fun W => bin_any k x y W, fun g W hX => ?_⟩
  have hw := work_any (.bin k (.int x) (.int y)) ⟨hk, hx, hy⟩ ⟨#[98, 105, 110]⟩ (binS k) 0 (.slice (some ⟨g, 0, none⟩) 2 2) (.slice none 0 0) (.slice none 0 0) W hX
  rw [h] at hw
  exact hw
theorem isx_nodes {W : World} {k g : Nat} {x y : Int} {s : ByteArray} {m : Int} (h : IsX W (.bin k (.int x) (.int y)) ⟨#[98, 105, 110]⟩ s m (.slice (some ⟨g, 0, none⟩) 2 2)) : ∃ t t' q q', NodeAt W g 0 ⟨#[105, 110, 116]⟩ t x q ∧ NodeAt W g 4 ⟨#[105, 110, 116]⟩ t' y q' := by
  obtain ⟨_, _, g', c, o, t, n, q, o', t', n', q', hs, h1, h2, h3, h4⟩ := h
  injection hs with e1 e2 e3
  injection e1 with e1
  injection e1 with e1
  subst e1
  obtain ⟨rfl, rfl⟩ := h2
  obtain ⟨rfl, rfl⟩ := h4
  exact ⟨t, t', q, q', h1, h3⟩
theorem rk_of (k : Nat) (hk : k < 5 ∨ k = 7 ∨ k = 9 ∨ k = 12) (x y : Int) (hx : In64 x) (hy : In64 y) (v : Vl) (f : Int) (h : workX (.bin k (.int x) (.int y)) = (v, f)) : Rk k (binS k) x y v f := by
  intro g W hX
  obtain ⟨t, t', q, q', h1, h2⟩ := isx_nodes hX
  have hw : Calls Try.prog 15 #[nd ⟨#[98, 105, 110]⟩ (binS k) 0 (.slice (some ⟨g, 0, none⟩) 2 2), .slice none 0 0, .slice none 0 0] W fun e w' => e = .returned (wv (workX (.bin k (.int x) (.int y)))) ∧ Below W.heap.size W w' := by
    match k, hk with
    | 0, _ => rw [nums_worked 0 (by omega)]; exact rwork_num0 x y hx hy 0 g 2 t t' q q' _ _ W h1 h2
    | 1, _ => rw [nums_worked 1 (by omega)]; exact rwork_num1 x y hx hy 0 g 2 t t' q q' _ _ W h1 h2
    | 2, _ => rw [nums_worked 2 (by omega)]; exact rwork_num2 x y hx hy 0 g 2 t t' q q' _ _ W h1 h2
    | 3, _ => rw [nums_worked 3 (by omega)]; exact rwork_num3 x y hx hy 0 g 2 t t' q q' _ _ W h1 h2
    | 4, _ => rw [nums_worked 4 (by omega)]; exact rwork_num4 x y hx hy 0 g 2 t t' q q' _ _ W h1 h2
    | 7, _ => rw [compares_worked 0, ← one_num]; exact rwork_cmp0 x y 0 g 2 t t' q q' _ _ W h1 h2
    | 9, _ => rw [compares_worked 2, ← one_num]; exact rwork_cmp2 x y 0 g 2 t t' q q' _ _ W h1 h2
    | 12, _ => rw [compares_worked 5, ← one_num]; exact rwork_cmp5 x y 0 g 2 t t' q q' _ _ W h1 h2
  rw [h] at hw
  exact hw
end Go.Proofs.Yteedbhkofgkpoaa
