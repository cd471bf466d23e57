/-
  The heap of prints: heap.Push onto none.
-/
import Derived.Test.YtkjgbldooflodaaCmQ
import Derived.Deep.AppendLies
namespace Go.Proofs.Ytkjgbldooflodaa
open Go.RowKit Cm Mp
set_option maxRecDepth 100000
set_option linter.unusedVariables false
set_option linter.unusedSimpArgs false
theorem ta_str (x : ByteArray) (w : World) : (Instr.typeAssert (.iface 9 (.string x)) 20 9 false).run Try.prog w = .ok (.string x) w := by kernel_rfl
set_option maxHeartbeats 2000000 in
theorem push_box (B fb rb c : Nat) (x : ByteArray) (w : World) (h : Bx w B fb rb c []) :
    Calls Try.prog 90 #[.pointer (some ⟨fb, 0, none⟩), .iface 9 (.string x)] w fun e w' => e = .returned (.tuple #[]) ∧ ∃ rb' c', Bx w' B fb rb' c' [x] ∧ But fb rb w w' := by
  obtain ⟨i0, hi0, hz0, hz1, hz2⟩ := info_parts (P := Try.prog) (e := 9) (z := .string ⟨#[]⟩) (size := 1) (bytes := 16) (by kernel_rfl)
  have k0 : w.cell? ⟨fb, 0, none⟩ = some (.slice (some ⟨rb, 0, none⟩) 0 c) := by rw [Lib.cell_of_heap h.box]; rfl
  have f0 : w.frozen? ⟨fb, 0, none⟩ = false := by simp [World.frozen?, h.box]
  have hrow : w.ownsRow B 9 1 (.slice (some ⟨rb, 0, none⟩) 0 c) 0 [] := h.row
  have hlt := hrow.lt rb rfl
  have hne := h.ne
  have hfl := (Array.getElem?_eq_some_iff.1 h.box).1
  have hta := ta_str x
  have HX : ∀ w1, ((w.alloc (.cells #[.string x] 9)).drew).grownBy w1 ((Value.slice (some ⟨rb, 0, none⟩) 0 c).ownBlock) → w1.heap[fb]? = some (.cells #[.slice (some ⟨rb, 0, none⟩) 0 c] 82 (0, 0)) ∧ w1.cell? ⟨fb, 0, none⟩ = some (.slice (some ⟨rb, 0, none⟩) 0 c) ∧ w1.frozen? ⟨fb, 0, none⟩ = false ∧ But fb rb w w1 := fun w1 hgrow => by
    have hsz : (w.alloc (.cells #[.string x] 9)).drew.heap.size = w.heap.size + 1 := by show (w.alloc _).heap.size = _; simp
    have hbx := (hgrow.block fb (by rw [hsz]; omega) (by simp only [Value.ownBlock, ne_eq, Option.some.injEq]; exact hne)).trans ((Lib.alloc_old w _ fb hfl).trans h.box)
    refine ⟨hbx, by rw [Lib.cell_of_heap hbx]; rfl, by simp [World.frozen?, hbx], hgrow.os, hgrow.tape, hgrow.output, Nat.le_trans (by rw [hsz]; omega) hgrow.size, fun k hk h1 h2 => (hgrow.block k (by rw [hsz]; omega) (by simp only [Value.ownBlock, ne_eq, Option.some.injEq]; exact h2)).trans (Lib.alloc_old w _ k hk)⟩
  have hld := ldB_eq
  go_enter Try.func90, Try.ntmps90
  simp only [← ldB_eq]
  go_region_held3 (fun _ => True) (exact trivial)
    (go_loud (refine step_append_lies _ (by rfl) _ _ _ (by rfl) B 9 i0 _ 1 16 Try.underlying82 hi0 hz0 hz1 hz2 rfl (by omega) (.slice (some ⟨rb, 0, none⟩) 0 c) 0 _ (by rfl) ((hrow.alloc _).drew) ⟨w.heap.size, 0, none⟩ 1 1 [.string x] (by rfl) (by rfl) (World.news_of_block (cs := #[.string x]) (t := 9) (fr := (0, 0)) (heap_alloc_new w _)) (by simp [Value.oneCell']) (by omega) (by unfold maxLen; omega) (by omega) (by simp; omega) (w.heap.size + 1) (by simp) ?_; intro gg cap w1 hown1 hgrow hat hlt1; obtain ⟨hbx, k5, k6, hbut⟩ := HX _ hgrow))
  all_goals (
    go_wp2
    refine ⟨rfl, .tuple #[], by simp [results, Try.results90, go_sem], rfl, gg, cap, ⟨block_set hbx (i := 0) (.slice (some ⟨gg, 0, none⟩) 1 cap), ?_⟩, ?_⟩
    · refine World.ownsRow.kept (w := w1) (row := some fb) hown1 (gb_set w1 ⟨fb, 0, none⟩ _) (.inr ?_)
      have hgf : gg ≠ fb := by
        rcases hat with hat | hat
        · simp [Value.ownBlock] at hat
          omega
        · omega
      simp [Value.ownBlock]
      exact hgf
    · exact hbut.set 0 _)
theorem hpush_one (B fb rb c : Nat) (x : ByteArray) (w : World) (h : Bx w B fb rb c []) :
    Calls Try.prog 39 #[lp fb, .iface 9 (.string x)] w fun e w' => e = .returned (.tuple #[]) ∧ ∃ rb' c', Bx w' B fb rb' c' [x] ∧ But fb rb w w' := by
  have m3 := mPush
  unfold lp
  go_enter Try.func39, Try.ntmps39
  go_wp2_with (first | (go_at_call 90; refine (push_box B fb rb c x w h).mono ?_; rintro e w1 ⟨rfl, rb', c', hb1, hbut⟩; have k1 : w1.cell? ⟨fb, 0, none⟩ = some (.slice (some ⟨rb', 0, none⟩) 1 c') := (by (rw [Lib.cell_of_heap hb1.box]; rfl)); have m1 := mLen k1) | (go_at_call 37; refine (len_any _ _ _ _).mono ?_; rintro e w2 ⟨rfl, rfl⟩) | (go_at_call 53; refine (up_none _ _).mono ?_; rintro e w3 ⟨rfl, rfl⟩))
  exact ⟨rfl, .tuple #[], by simp [results, Try.results39, go_sem], rfl, rb', c', hb1, hbut⟩
end Go.Proofs.Ytkjgbldooflodaa
