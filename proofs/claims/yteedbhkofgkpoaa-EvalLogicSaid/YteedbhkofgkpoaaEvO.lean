/-
  The walk of awake.
-/
import Derived.Test.YteedbhkofgkpoaaEv10
import Derived.Test.YteedbhkofgkpoaaEvN
namespace Go.Proofs.Yteedbhkofgkpoaa
open Go.RowKit Ev
set_option maxRecDepth 100000
set_option linter.unusedVariables false
set_option linter.unusedSimpArgs false
abbrev objA : Obj := .cells #[.string ⟨#[110, 117, 108, 108]⟩, .string ⟨#[]⟩, .int .i64 0, .slice none 0 0, .string ⟨#[98, 111, 111, 108]⟩, .string ⟨#[]⟩, .int .i64 0, .slice none 0 0] 27
abbrev objC : Obj := .cells #[.string ⟨#[105, 110, 116]⟩, .string ⟨#[]⟩, .int .i64 2, .slice none 0 0, .string ⟨#[105, 110, 116]⟩, .string ⟨#[]⟩, .int .i64 3, .slice none 0 0] 27
abbrev objN (op : ByteArray) (g : Nat) : Obj := .cells #[.string ⟨#[98, 105, 110]⟩, .string op, .int .i64 0, .slice (some ⟨g, 0, none⟩) 2 2] 27
abbrev lay4 (w : World) : World := (((w.alloc objA).alloc (objN ⟨#[65, 78, 68]⟩ w.heap.size)).alloc objC).alloc (objN ⟨#[43]⟩ (w.heap.size + 2))
theorem lay4_at (w : World) : (lay4 w).heap[w.heap.size]? = some objA ∧ (lay4 w).heap[w.heap.size + 1]? = some (objN ⟨#[65, 78, 68]⟩ w.heap.size) ∧ (lay4 w).heap[w.heap.size + 2]? = some objC ∧ (lay4 w).heap[w.heap.size + 3]? = some (objN ⟨#[43]⟩ (w.heap.size + 2)) := by
  refine ⟨?_, ?_, ?_, ?_⟩
  · rw [Lib.alloc_old _ _ _ (by simp; omega), Lib.alloc_old _ _ _ (by simp; omega), Lib.alloc_old _ _ _ (by simp)]
    exact heap_alloc_new w _
  · rw [Lib.alloc_old _ _ _ (by simp), Lib.alloc_old _ _ _ (by simp)]
    simpa using heap_alloc_new (w.alloc objA) (objN ⟨#[65, 78, 68]⟩ w.heap.size)
  · rw [Lib.alloc_old _ _ _ (by simp)]
    simpa using heap_alloc_new ((w.alloc objA).alloc (objN ⟨#[65, 78, 68]⟩ w.heap.size)) objC
  · simpa using heap_alloc_new (((w.alloc objA).alloc (objN ⟨#[65, 78, 68]⟩ w.heap.size)).alloc objC) (objN ⟨#[43]⟩ (w.heap.size + 2))
theorem lay4_below (w : World) : Below w.heap.size w (lay4 w) := ((((Below.refl _ _).alloc (Nat.le_refl _) _).alloc (by simp) _).alloc (by simp; omega) _).alloc (by simp; omega) _
theorem known_and : workX (.bin 5 .null (.bool 0)) = (⟨2, 0, emp⟩, 0) := by
  have h : emp.toList = [] := by simp
  simp [workX, two, nul, tr, h]
theorem known_plus : workX (.bin 0 (.int 2) (.int 3)) = (⟨1, 5, emp⟩, 0) := by rfl
theorem awake_any (w : World) : Calls Try.prog 8 #[] w fun e w' => e = .returned (.bool true) ∧ Below w.heap.size w w' := by
  obtain ⟨kA, kB, kC, kD⟩ := lay4_at w
  have hb := lay4_below w
  have nA : ∀ i v, (#[.string ⟨#[110, 117, 108, 108]⟩, .string ⟨#[]⟩, .int .i64 0, .slice none 0 0, .string ⟨#[98, 111, 111, 108]⟩, .string ⟨#[]⟩, .int .i64 0, .slice none 0 0] : Array Value)[i]? = some v → (lay4 w).cell? ⟨w.heap.size, i, none⟩ = some v := fun i v hv => by rw [Lib.cell_of_heap kA]; exact hv
  have hn0 : NodeAt (lay4 w) w.heap.size 0 ⟨#[110, 117, 108, 108]⟩ ⟨#[]⟩ 0 (.slice none 0 0) := ⟨nA 0 _ rfl, nA 1 _ rfl, nA 2 _ rfl, nA 3 _ rfl⟩
  have hn1 : NodeAt (lay4 w) w.heap.size 4 ⟨#[98, 111, 111, 108]⟩ ⟨#[]⟩ 0 (.slice none 0 0) := ⟨nA 4 _ rfl, nA 5 _ rfl, nA 6 _ rfl, nA 7 _ rfl⟩
  have hxA : IsX (lay4 w) (.bin 5 .null (.bool 0)) ⟨#[98, 105, 110]⟩ (binS 5) 0 (.slice (some ⟨w.heap.size, 0, none⟩) 2 2) := pair_isx 0 kA rfl ⟨rfl, rfl⟩
  have hxC : IsX (lay4 w) (.bin 0 (.int 2) (.int 3)) ⟨#[98, 105, 110]⟩ (binS 0) 0 (.slice (some ⟨w.heap.size + 2, 0, none⟩) 2 2) := pair_isx 0 kC ⟨rfl, rfl⟩ ⟨rfl, rfl⟩
  have hB1 : Box (lay4 w) (w.heap.size + 1) ⟨#[98, 105, 110]⟩ ⟨#[65, 78, 68]⟩ 0 (.slice (some ⟨w.heap.size, 0, none⟩) 2 2) := kB
  have hB2 : Box (lay4 w) (w.heap.size + 3) ⟨#[98, 105, 110]⟩ ⟨#[43]⟩ 0 (.slice (some ⟨w.heap.size + 2, 0, none⟩) 2 2) := kD
  clear kA kB kC kD nA
  have hck := check_and 0 w.heap.size 2 ⟨#[]⟩ 0 0 ⟨#[]⟩ (lay4 w) hn0 hn1
  have hwA : ∀ W, IsX W (.bin 5 .null (.bool 0)) ⟨#[98, 105, 110]⟩ (binS 5) 0 (.slice (some ⟨w.heap.size, 0, none⟩) 2 2) → Calls Try.prog 14 #[nd ⟨#[98, 105, 110]⟩ ⟨#[65, 78, 68]⟩ 0 (.slice (some ⟨w.heap.size, 0, none⟩) 2 2), .slice none 0 0, .slice none 0 0] W fun e w' => e = .returned (wv (⟨2, 0, emp⟩, 0)) ∧ Below W.heap.size W w' := fun W h => by
    rw [← known_and]; exact work_any (.bin 5 .null (.bool 0)) ⟨by omega, trivial, trivial⟩ _ _ _ _ _ _ W h
  have hwC : ∀ W, IsX W (.bin 0 (.int 2) (.int 3)) ⟨#[98, 105, 110]⟩ (binS 0) 0 (.slice (some ⟨w.heap.size + 2, 0, none⟩) 2 2) → Calls Try.prog 14 #[nd ⟨#[98, 105, 110]⟩ ⟨#[43]⟩ 0 (.slice (some ⟨w.heap.size + 2, 0, none⟩) 2 2), .slice none 0 0, .slice none 0 0] W fun e w' => e = .returned (wv (⟨1, 5, emp⟩, 0)) ∧ Below W.heap.size W w' := fun W h => by
    rw [← known_plus]; exact work_any (.bin 0 (.int 2) (.int 3)) ⟨by omega, by unfold Ok In64; omega, by unfold Ok In64; omega⟩ _ _ _ _ _ _ W h
  have hpl := fun W => place_none ⟨#[99, 111, 108, 117, 109, 110]⟩ ⟨#[120]⟩ 0 (.slice none 0 0) W
  obtain ⟨a0, a1, a2, a3⟩ := hB1.at
  obtain ⟨b0, b1, b2, b3⟩ := hB2.at
  unfold wv vv at hwA hwC
  unfold nd at hck hwA hwC hpl
  clear hn0 hn1
  go_enter Try.func8, Try.ntmps8
  go_wp2_with (fail)
  go_at_call 11
  refine hck.mono ?_
  rintro e w1 ⟨rfl, hC⟩
  have hb1 := hb.trans (hC.mono hb.size)
  have hA1 := hB1.below hC
  have hA2 := hB2.below hC
  have hx1 := hxA.below hC
  have hx2 := hxC.below hC
  clear a0 a1 a2 a3 b0 b1 b2 b3 hC hxA hxC hB1 hB2 hb
  obtain ⟨a0, a1, a2, a3⟩ := hA1.at
  obtain ⟨b0, b1, b2, b3⟩ := hA2.at
  go_wp2_with (fail)
  go_at_call 14
  refine (hwA _ hx1).mono ?_
  rintro e w2 ⟨rfl, hC⟩
  have hb2 := hb1.trans (hC.mono hb1.size)
  have hA3 := hA2.below hC
  have hx3 := hx2.below hC
  have hal : Below w2.heap.size w2 (w2.alloc (.cells #[.int .i64 2, .int .i64 0, .string emp] 38)) := (Below.refl _ _).alloc (Nat.le_refl _) _
  have hx4 := hx3.below hal
  have hA4 := hA3.below hal
  have hL := Lies.new w2 ⟨2, 0, emp⟩
  clear a0 a1 a2 a3 b0 b1 b2 b3 hC hA1 hA2 hx1 hx2 hA3 hx3 hal hb1
  obtain ⟨b0, b1, b2, b3⟩ := hA4.at
  go_wp2_with (fail)
  go_at_call 14
  refine (hwC _ hx4).mono ?_
  rintro e w3 ⟨rfl, hC⟩
  have hL3 := hL.below hC
  have hb3 := (hb2.alloc hb2.size _).trans (hC.mono (by have := hb2.size; simp; omega))
  clear b0 b1 b2 b3 hC hx4 hA4 hL hb2
  have hal : Below w3.heap.size w3 (w3.alloc (.cells #[.int .i64 1, .int .i64 5, .string emp] 38)) := (Below.refl _ _).alloc (Nat.le_refl _) _
  have hL4 := hL3.below hal
  have hM := Lies.new w3 ⟨1, 5, emp⟩
  have hb4 := hb3.alloc hb3.size (.cells #[.int .i64 1, .int .i64 5, .string emp] 38)
  clear hal hL3 hb3
  go_wp2_with (fail)
  go_at_call 21
  refine (hpl _).mono ?_
  rintro e w4 ⟨rfl, hC⟩
  have hL5 := hL4.below hC
  have hM5 := hM.below hC
  have hb5 := hb4.trans (hC.mono hb4.size)
  have c0 := hL5.c0
  have c1 := hL5.c1
  have c2 := hL5.c2
  have d0 := hM5.c0
  have d1 := hM5.c1
  have d2 := hM5.c2
  clear hC
  go_wp2
  go_ret
  exact ⟨rfl, hb5⟩
end Go.Proofs.Yteedbhkofgkpoaa
