/-
  Expressions without columns: what they are in memory and what they are worth; walks of numbered and shaped.
-/
import Derived.Test.YteedbhkofgkpoaaEv4
namespace Go.Proofs.Yteedbhkofgkpoaa
open Go.RowKit Ev
set_option maxRecDepth 100000
set_option linter.unusedVariables false
set_option linter.unusedSimpArgs false
def wv (p : Vl × Int) : Value := .tuple #[vv p.1, .int .i64 p.2]
def numd (o : Nat) (a b : Int) : Vl × Int := if (work o a b).2 = 0 then (num (work o a b).1, 0) else (nul, (work o a b).2)
theorem numbered_any (o : Nat) (ho : o ≤ 4) (a b : Int) (w : World) (ha : In64 a) (hb : In64 b) :
    Calls Try.prog 33 #[.string (opS o), .int .i64 a, .int .i64 b] w fun e w' => e = .returned (wv (numd o a b)) ∧ Below w.heap.size w w' := by
  obtain ⟨n, hn⟩ : ∃ n, n = (work o a b).1 := ⟨_, rfl⟩
  obtain ⟨f, hf⟩ : ∃ f, f = (work o a b).2 := ⟨_, rfl⟩
  unfold numd
  rw [← hn, ← hf]
  have hnv : nv (work o a b) = .tuple #[.int .i64 n, .int .i64 f] := by rw [hn, hf]; rfl
  obtain ⟨s, hs⟩ : ∃ s, s = opS o := ⟨_, rfl⟩
  have hc : ∀ W : World, Calls Try.prog 46 #[.string s, .int .i64 a, .int .i64 b] W fun e w' => e = .returned (.tuple #[.int .i64 n, .int .i64 f]) ∧ w' = W := fun W => by
    rw [← hnv, hs]
    exact number_any o ho a b W ha hb
  rw [← hs]
  clear hn hf hnv hs ha hb
  by_cases h0 : f = 0
  · rw [if_pos h0]
    subst h0
    go_enter Try.func33, Try.ntmps33
    go_wp2_with (fail)
    go_at_call 46
    refine (hc _).mono ?_
    rintro e w1 ⟨rfl, rfl⟩
    go_wp2
    exact bodyPost_ret (v := wv (num n, 0)) (by simp [results, Try.results33, go_sem, vv, wv, num]) rfl ⟨rfl, (Below.refl _ _).alloc (Nat.le_refl _) _⟩
  · rw [if_neg h0]
    have hfb : (f != 0) = true := bne_iff_ne.2 h0
    go_enter Try.func33, Try.ntmps33
    go_wp2_with (fail)
    go_at_call 46
    refine (hc _).mono ?_
    rintro e w1 ⟨rfl, rfl⟩
    go_wp2
    exact bodyPost_ret (v := wv (nul, f)) (by simp [results, Try.results33, go_sem, vv, wv, nul]) rfl ⟨rfl, (Below.refl _ _).alloc (Nat.le_refl _) _⟩
/-- Expressions without columns: 0 to 4 work with numbers, 5 and 6 are AND and OR, 7 to 12 compare. -/
inductive X where
  | int (n : Int)
  | bool (n : Int)
  | null
  | isnull (e : X)
  | not (e : X)
  | neg (e : X)
  | bin (k : Nat) (a b : X)
def binS (k : Nat) : ByteArray := if k < 5 then opS k else if k = 5 then ⟨#[65, 78, 68]⟩ else if k = 6 then ⟨#[79, 82]⟩ else cmpOS (k - 7)
def nd (op text : ByteArray) (n : Int) (kids : Value) : Value := .agg #[.string op, .string text, .int .i64 n, kids]
/-- A node lies at a place. -/
def NodeAt (w : World) (g o : Nat) (op text : ByteArray) (n : Int) (kids : Value) : Prop :=
  w.cell? ⟨g, o, none⟩ = some (.string op) ∧ w.cell? ⟨g, o + 1, none⟩ = some (.string text) ∧ w.cell? ⟨g, o + 2, none⟩ = some (.int .i64 n) ∧ w.cell? ⟨g, o + 3, none⟩ = some kids
/-- An expression is a node in memory. -/
def IsX (w : World) : X → ByteArray → ByteArray → Int → Value → Prop
  | .int n, op, _, m, _ => op = ⟨#[105, 110, 116]⟩ ∧ m = n
  | .bool n, op, _, m, _ => op = ⟨#[98, 111, 111, 108]⟩ ∧ m = n
  | .null, op, _, _, _ => op = ⟨#[110, 117, 108, 108]⟩
  | .isnull e, op, _, _, k => op = ⟨#[105, 115, 110, 117, 108, 108]⟩ ∧ ∃ g c o t n q, k = .slice (some ⟨g, 0, none⟩) 1 c ∧ NodeAt w g 0 o t n q ∧ IsX w e o t n q
  | .not e, op, _, _, k => op = ⟨#[110, 111, 116]⟩ ∧ ∃ g c o t n q, k = .slice (some ⟨g, 0, none⟩) 1 c ∧ NodeAt w g 0 o t n q ∧ IsX w e o t n q
  | .neg e, op, _, _, k => op = ⟨#[110, 101, 103]⟩ ∧ ∃ g c o t n q, k = .slice (some ⟨g, 0, none⟩) 1 c ∧ NodeAt w g 0 o t n q ∧ IsX w e o t n q
  | .bin b x y, op, text, _, k => op = ⟨#[98, 105, 110]⟩ ∧ text = binS b ∧ ∃ g c o t n q o' t' n' q', k = .slice (some ⟨g, 0, none⟩) 2 c ∧ NodeAt w g 0 o t n q ∧ IsX w x o t n q ∧ NodeAt w g 4 o' t' n' q' ∧ IsX w y o' t' n' q'
theorem NodeAt.below {w w' : World} {g o : Nat} {op text : ByteArray} {n : Int} {kids : Value} (h : NodeAt w g o op text n kids) (hb : Below w.heap.size w w') : NodeAt w' g o op text n kids := by
  have hc : ∀ (i : Nat) (v : Value), w.cell? ⟨g, i, none⟩ = some v → w'.cell? ⟨g, i, none⟩ = some v := fun i v hv => (hb.cell (World.block_lt_of_cell? w _ hv)).trans hv
  obtain ⟨h0, h1, h2, h3⟩ := h
  exact ⟨hc _ _ h0, hc _ _ h1, hc _ _ h2, hc _ _ h3⟩
theorem IsX.below {w w' : World} (hb : Below w.heap.size w w') : ∀ {x : X} {op text : ByteArray} {n : Int} {k : Value}, IsX w x op text n k → IsX w' x op text n k := by
  intro x
  induction x with
  | int n => intro op text m k h; exact h
  | bool n => intro op text m k h; exact h
  | null => intro op text m k h; exact h
  | isnull e ih => intro op text m k h; obtain ⟨h1, g, c, o, t, n, q, h2, h3, h4⟩ := h; exact ⟨h1, g, c, o, t, n, q, h2, h3.below hb, ih h4⟩
  | not e ih => intro op text m k h; obtain ⟨h1, g, c, o, t, n, q, h2, h3, h4⟩ := h; exact ⟨h1, g, c, o, t, n, q, h2, h3.below hb, ih h4⟩
  | neg e ih => intro op text m k h; obtain ⟨h1, g, c, o, t, n, q, h2, h3, h4⟩ := h; exact ⟨h1, g, c, o, t, n, q, h2, h3.below hb, ih h4⟩
  | bin b x y ih1 ih2 =>
    intro op text m k h
    obtain ⟨h1, ht, g, c, o, t, n, q, o', t', n', q', h2, h3, h4, h5, h6⟩ := h
    exact ⟨h1, ht, g, c, o, t, n, q, o', t', n', q', h2, h3.below hb, ih1 h4, h5.below hb, ih2 h6⟩
/-- Two operands, the first of which is worked without an error. -/
def two (k : Nat) (a : Vl) (q : Vl × Int) : Vl × Int :=
  if (k = 5 ∨ k = 6) ∧ a.k = 2 ∧ a.n = (if k = 6 then 1 else 0) ∧ a.s.toList = [] then (a, 0)
  else if q.2 ≠ 0 then (nul, q.2)
  else if (k = 5 ∨ k = 6) ∧ q.1.k = 2 ∧ q.1.n = (if k = 6 then 1 else 0) ∧ q.1.s.toList = [] then (q.1, 0)
  else if a.k = 0 ∨ q.1.k = 0 then (nul, 0)
  else if k = 5 ∨ k = 6 then (tr (k == 5), 0)
  else if k < 5 then numd k a.n q.1.n
  else (tr (cmpO (k - 7) (one a q.1)), 0)
def workX : X → Vl × Int
  | .int n => (num n, 0)
  | .bool n => (tr (n == 1), 0)
  | .null => (nul, 0)
  | .isnull e => if (workX e).2 ≠ 0 then (nul, (workX e).2) else (tr ((workX e).1.k == 0), 0)
  | .not e => if (workX e).2 ≠ 0 then (nul, (workX e).2) else if (workX e).1.k = 0 then ((workX e).1, 0) else (tr ((workX e).1.n == 0), 0)
  | .neg e => if (workX e).2 ≠ 0 then (nul, (workX e).2) else if (workX e).1.k = 0 then ((workX e).1, 0) else numd 1 0 (workX e).1.n
  | .bin k a b => if (workX a).2 ≠ 0 then (nul, (workX a).2) else two k (workX a).1 (workX b)
end Go.Proofs.Yteedbhkofgkpoaa
