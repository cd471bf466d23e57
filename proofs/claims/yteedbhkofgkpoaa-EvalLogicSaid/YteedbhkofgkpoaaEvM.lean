/-
  The law's own expression of two numbers.
-/
import Derived.Test.YteedbhkofgkpoaaEv6
namespace Go.Proofs.Yteedbhkofgkpoaa
open Go.RowKit Ev
set_option maxRecDepth 100000
set_option linter.unusedVariables false
set_option linter.unusedSimpArgs false
def binV (op : ByteArray) (g : Nat) : Value := nd ⟨#[98, 105, 110]⟩ op 0 (.slice (some ⟨g, 0, none⟩) 2 2)
abbrev lay9 (w : World) (op : ByteArray) (a b : Int) : World := (w.alloc (.cells #[.string ⟨#[98, 105, 110]⟩, .string op, .int .i64 0, .slice (some ⟨w.heap.size + 1, 0, none⟩) 2 2] 27)).alloc (.cells #[.string ⟨#[105, 110, 116]⟩, .string ⟨#[]⟩, .int .i64 a, .slice none 0 0, .string ⟨#[105, 110, 116]⟩, .string ⟨#[]⟩, .int .i64 b, .slice none 0 0] 27)
/-- Two numbers' nodes, side by side in a block. -/
theorem pair_isx {W : World} {g c k : Nat} {o p : ByteArray} {a b : Int} {x y : X} {q r : Value} {s t : ByteArray} (m : Int) (h : W.heap[g]? = some (.cells #[.string o, .string s, .int .i64 a, q, .string p, .string t, .int .i64 b, r] 27 (0, 0)))
    (hx : IsX W x o s a q) (hy : IsX W y p t b r) : IsX W (.bin k x y) ⟨#[98, 105, 110]⟩ (binS k) m (.slice (some ⟨g, 0, none⟩) 2 c) := by
  have hc : ∀ i v, (#[.string o, .string s, .int .i64 a, q, .string p, .string t, .int .i64 b, r] : Array Value)[i]? = some v → W.cell? ⟨g, i, none⟩ = some v := fun i v hv => by rw [Lib.cell_of_heap h]; exact hv
  exact ⟨rfl, rfl, g, c, o, s, a, q, p, t, b, r, rfl, ⟨hc 0 _ rfl, hc 1 _ rfl, hc 2 _ rfl, hc 3 _ rfl⟩, hx, ⟨hc 4 _ rfl, hc 5 _ rfl, hc 6 _ rfl, hc 7 _ rfl⟩, hy⟩
theorem lay9_isx (w : World) (k : Nat) (a b : Int) : IsX (lay9 w (binS k) a b) (.bin k (.int a) (.int b)) ⟨#[98, 105, 110]⟩ (binS k) 0 (.slice (some ⟨w.heap.size + 1, 0, none⟩) 2 2) := by
  have h := heap_alloc_new (w.alloc (.cells #[.string ⟨#[98, 105, 110]⟩, .string (binS k), .int .i64 0, .slice (some ⟨w.heap.size + 1, 0, none⟩) 2 2] 27)) (.cells #[.string ⟨#[105, 110, 116]⟩, .string ⟨#[]⟩, .int .i64 a, .slice none 0 0, .string ⟨#[105, 110, 116]⟩, .string ⟨#[]⟩, .int .i64 b, .slice none 0 0] 27)
  refine pair_isx 0 (by simpa using h) ⟨rfl, rfl⟩ ⟨rfl, rfl⟩
theorem bin_any (k : Nat) (a b : Int) (w : World) : Calls Try.prog 17 #[.string (binS k), .int .i64 a, .int .i64 b] w fun e w' => (∃ g, e = .returned (binV (binS k) g) ∧ IsX w' (.bin k (.int a) (.int b)) ⟨#[98, 105, 110]⟩ (binS k) 0 (.slice (some ⟨g, 0, none⟩) 2 2)) ∧ Below w.heap.size w w' := by
  go_enter Try.func17, Try.ntmps17
  go_wp2
  have hb : Below w.heap.size w (lay9 w (binS k) a b) := ((Below.refl _ _).alloc (Nat.le_refl _) _).alloc (by simp) _
  have h := heap_alloc_new w (.cells #[.string ⟨#[98, 105, 110]⟩, .string (binS k), .int .i64 0, .slice (some ⟨w.heap.size + 1, 0, none⟩) 2 2] 27)
  have hx := Lib.alloc_old (w.alloc (.cells #[.string ⟨#[98, 105, 110]⟩, .string (binS k), .int .i64 0, .slice (some ⟨w.heap.size + 1, 0, none⟩) 2 2] 27)) (.cells #[.string ⟨#[105, 110, 116]⟩, .string ⟨#[]⟩, .int .i64 a, .slice none 0 0, .string ⟨#[105, 110, 116]⟩, .string ⟨#[]⟩, .int .i64 b, .slice none 0 0] 27) w.heap.size (by simp)
  have hB : Box (lay9 w (binS k) a b) w.heap.size ⟨#[98, 105, 110]⟩ (binS k) 0 (.slice (some ⟨w.heap.size + 1, 0, none⟩) 2 2) := hx.trans h
  obtain ⟨b0, b1, b2, b3⟩ := hB.at
  refine bodyPost_ret (v := binV (binS k) (w.heap.size + 1)) (by simp [results, Try.results17, go_sem, b0, b1, b2, b3, binV, nd]) rfl ⟨⟨_, rfl, lay9_isx w k a b⟩, hb⟩
end Go.Proofs.Yteedbhkofgkpoaa
