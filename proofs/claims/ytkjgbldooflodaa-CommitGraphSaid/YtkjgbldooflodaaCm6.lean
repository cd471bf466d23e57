/-
  The walk of the reference's Same at one commit twice.
-/
import Derived.Test.YtkjgbldooflodaaCm4
namespace Go.Proofs.Ytkjgbldooflodaa
open Go.RowKit Cm
set_option maxRecDepth 100000
set_option linter.unusedVariables false
set_option linter.unusedSimpArgs false
set_option maxHeartbeats 4000000 in
theorem rsame_any (r : ByteArray) (l : List ByteArray) (m : ByteArray) (o1 o2 : Option Addr) (c1 c2 : Nat) (w : World) (h1 : Ss w o1 l) (h2 : Ss w o2 l) (hl : l.length ≤ 1000) :
    Calls Try.prog 15 #[.agg #[.string r, .slice o1 l.length c1, .string m], .agg #[.string r, .slice o2 l.length c2, .string m]] w fun e w' => e = .returned (.bool true) ∧ Below w.heap.size w w' := by
  have hb1 : Below w.heap.size w (w.alloc (.cells #[.string r, .slice o1 l.length c1, .string m] 24)) := (Below.refl _ _).alloc (Nat.le_refl _) _
  have hb2 : Below w.heap.size w ((w.alloc (.cells #[.string r, .slice o1 l.length c1, .string m] 24)).alloc (.cells #[.string r, .slice o2 l.length c2, .string m] 24)) := hb1.alloc (by simp) _
  go_enter Try.func15, Try.ntmps15
  go_wp2
  go_loopw [5] (fun v wr => ∃ i : Nat, i ≤ l.length ∧ v = .int .i64 i ∧ Below (w.heap.size + 2) ((w.alloc (.cells #[.string r, .slice o1 l.length c1, .string m] 24)).alloc (.cells #[.string r, .slice o2 l.length c2, .string m] 24)) wr)
    (fun v _ => l.length - (intOf v).toNat)
  case atStart => exact ⟨0, by omega, rfl, Below.refl _ _⟩
  case round =>
    obtain ⟨i, hi, rfl, hB⟩ := hrel
    have hBr : Below w.heap.size w wr := hb2.trans (hB.mono (by omega))
    have hk1 : wr.heap[w.heap.size]? = some (.cells #[.string r, .slice o1 l.length c1, .string m] 24 (0, 0)) := by
      rw [hB.block w.heap.size (by omega), Lib.alloc_old _ _ _ (by simp)]
      exact heap_alloc_new w _
    have hk2 : wr.heap[w.heap.size + 1]? = some (.cells #[.string r, .slice o2 l.length c2, .string m] 24 (0, 0)) := by
      rw [hB.block (w.heap.size + 1) (by omega)]
      have := heap_alloc_new (w.alloc (.cells #[.string r, .slice o1 l.length c1, .string m] 24)) (.cells #[.string r, .slice o2 l.length c2, .string m] 24)
      simpa using this
    have k1 : wr.cell? ⟨w.heap.size, 1, none⟩ = some (.slice o1 l.length c1) := by rw [Lib.cell_of_heap hk1]; rfl
    have k2 : wr.cell? ⟨w.heap.size + 1, 1, none⟩ = some (.slice o2 l.length c2) := by rw [Lib.cell_of_heap hk2]; rfl
    by_cases hil : i < l.length
    · obtain ⟨a, rfl⟩ := ss_some h1 hil
      obtain ⟨d, rfl⟩ := ss_some h2 hil
      obtain ⟨x, hx⟩ : ∃ x, l[i]? = some x := ⟨l[i], List.getElem?_eq_getElem hil⟩
      have cx := (h1.below hBr).at hx
      have dx := (h2.below hBr).at hx
      have j16 : (i : Int) < l.length := by omega
      have i17 : IntKind.i64.wrap ((i : Int) + 1) = (i : Int) + 1 := wrap_fit _ (by omega) (by omega)
      clear hx hk1 hk2
      go_wp2
      go_quiet (fail)
      all_goals (
        go_wp2
        go_roundw
        (case rel => exact ⟨i + 1, hil, by go_num, by first | exact hB.drew | exact below_drewN hB _⟩)
        (case measure => simp [intOf]; omega))
    · obtain rfl : i = l.length := by omega
      go_wp2
      go_ret
      exact ⟨rfl, hBr⟩
end Go.Proofs.Ytkjgbldooflodaa
