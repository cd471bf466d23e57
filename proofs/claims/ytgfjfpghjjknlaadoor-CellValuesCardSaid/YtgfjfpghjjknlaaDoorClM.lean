/-
  The walk of the law CellValues.
-/
import Derived.Test.YtgfjfpghjjknlaaDoorClJ
import Derived.Deep.RegionHeld3
namespace Go.Proofs.YtgfjfpghjjknlaaDoor
open Go.RowKit Cl
set_option maxRecDepth 100000
set_option linter.unusedVariables false
set_option linter.unusedSimpArgs false
set_option maxHeartbeats 4000000 in
theorem cellValues_walk (a : V) (w : World) (he : Env w) (ha : In64 a.n) :
    Calls Tryd.prog 3 #[.agg #[.int .i64 a.k, .int .i64 a.n, .string a.s]] w fun e w' => e = .returned (.bool true) ∧ Below w.heap.size w w' := by
  obtain ⟨ka, na, sa⟩ := a
  dsimp only at ha ⊢
  have hb1 := (Below.refl w.heap.size w).alloc (Nat.le_refl _) (.cells #[.int .i64 ka, .int .i64 na, .string sa] 23)
  have hva : VAt (w.alloc (.cells #[.int .i64 ka, .int .i64 na, .string sa] 23)) w.heap.size ⟨ka, na, sa⟩ := heap_alloc_new w _
  have he1 := he.below hb1 he.lt
  generalize hwa : (w.alloc (.cells #[.int .i64 ka, .int .i64 na, .string sa] 23)) = wa at hb1 hva he1
  go_enter Tryd.func3, Tryd.ntmps3
  go_wp2_with (fail)
  clear hwa
  go_at_call 9
  refine (awake_any wa he1).mono ?_
  rintro e w1 ⟨rfl, h1⟩
  have hB1 := hb1.trans (h1.mono hb1.size)
  have ha1 := hva.below h1
  have he2 := he1.below h1 he1.lt
  clear hva he1 hb1 h1 he
  obtain ⟨x0, x1, x2⟩ := ha1.cells
  dsimp only at x0 x1 x2
  have hS0 := ha1.cells
  dsimp only at hS0
  by_cases hl : (sa.size : Int) > 1100
  · go_wp2
    go_ret
    exact ⟨rfl, hB1⟩
  · have c1 := fun w => right_any ⟨ka, na, sa⟩ w
    have c2 := fun w => rright_any ⟨ka, na, sa⟩ w
    have c3 := fun w (he : Env w) => show_any ⟨ka, na, sa⟩ w he ha
    have c4 := fun w => rshow_any ⟨ka, na, sa⟩ w ha
    dsimp only at c1 c2 c3 c4
    obtain ⟨r, hr⟩ : ∃ r, r = right ⟨ka, na, sa⟩ := ⟨_, rfl⟩
    obtain ⟨z, hz⟩ : ∃ z, z = showS ⟨ka, na, sa⟩ := ⟨_, rfl⟩
    rw [← hr] at c1 c2
    rw [← hz] at c3 c4
    clear hr hz
    cases r
    all_goals (
      go_wp2_with (fail)
      go_region_held3 (fun w' => w'.cell? ⟨w.heap.size, 0, none⟩ = some (.int .i64 ka) ∧ w'.cell? ⟨w.heap.size, 1, none⟩ = some (.int .i64 na) ∧ w'.cell? ⟨w.heap.size, 2, none⟩ = some (.string sa)) (first | exact hS0 | exact hS5 | exact hS6 | exact hS7 | exact hS8 | go_keep)
        ((first | (go_at_call 10; go_loud (with_reducible refine (c1 _).mono ?_; rintro e w5 ⟨rfl, hC5⟩; have hb5 : Below w1.heap.size w1 w5 := (Below.refl _ _).drew.trans (hC5.mono (by simp)); have hS5 := (ha1.below hb5).cells)) | (go_at_call 11; go_loud (with_reducible refine (c2 _).mono ?_; rintro e w6 ⟨rfl, hC6⟩; have hb6 : Below w1.heap.size w1 w6 := hb5.trans (hC6.mono hb5.size); have hS6 := (ha1.below hb6).cells; have he6 := he2.below hb6 he2.lt)) | (go_at_call 12; go_loud (with_reducible refine (c3 _ he6).mono ?_; rintro e w7 ⟨rfl, hC7⟩; have hb7 : Below w1.heap.size w1 w7 := hb6.trans (hC7.mono hb6.size); have hS7 := (ha1.below hb7).cells)) | (go_at_call 13; go_loud (with_reducible refine (c4 _).mono ?_; rintro e w8 ⟨rfl, hC8⟩; have hb8 : Below w1.heap.size w1 w8 := hb7.trans (hC8.mono hb7.size); have hS8 := (ha1.below hb8).cells))))
      all_goals (
        go_wp2
        go_ret
        exact ⟨by first | rfl | (simp; done), hB1.trans (hb8.mono hB1.size)⟩))
end Go.Proofs.YtgfjfpghjjknlaaDoor
