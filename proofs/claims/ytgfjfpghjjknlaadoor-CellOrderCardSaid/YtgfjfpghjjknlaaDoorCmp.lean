/-
  Two values compared: plain words; the walks of cmp.Compare, cmp.Or, of cell.Compare's inner function and of the reference's One.
-/
import Derived.Test.YtgfjfpghjjknlaaDoorCl0
import Derived.WalkLawsBesides
import Derived.OwnWalk
import Derived.Below
import Derived.Deep.RegionHeld3
import Derived.Lib.Hide
import Derived.Lib.Builder
namespace Go.Proofs.YtgfjfpghjjknlaaDoor
open Go.RowKit Cl
set_option maxRecDepth 100000
set_option linter.unusedVariables false
set_option linter.unusedSimpArgs false
namespace Cl
/-- Two whole numbers, two texts, compared. -/
def cmpI (a b : Int) : Int := if a < b then -1 else if b < a then 1 else 0
def cmpS (a b : ByteArray) : Int := bif Op.bytesLess a.toList b.toList then -1 else bif a.toList == b.toList then 0 else 1
def first3 (a b c : Int) : Int := if a ≠ 0 then a else if b ≠ 0 then b else c
/-- Two values, compared. -/
def one (v w : V) : Int := first3 (cmpI v.k w.k) (cmpI v.n w.n) (cmpS v.s w.s)
end Cl
theorem cmpI_any (a b : Int) (w : World) : Calls Tryd.prog 43 #[.int .i64 a, .int .i64 b] w fun e w' => e = .returned (.int .i64 (cmpI a b)) ∧ w' = w := by
  by_cases h1 : a < b
  · have hc : cmpI a b = -1 := by unfold cmpI; rw [if_pos h1]
    rw [hc]
    go_enter Tryd.func43, Tryd.ntmps43
    go_wp2
    go_ret
    exact ⟨rfl, rfl⟩
  · by_cases h2 : b < a
    · have hc : cmpI a b = 1 := by unfold cmpI; rw [if_neg h1, if_pos h2]
      rw [hc]
      go_enter Tryd.func43, Tryd.ntmps43
      go_wp2
      go_ret
      exact ⟨rfl, rfl⟩
    · have hc : cmpI a b = 0 := by unfold cmpI; rw [if_neg h1, if_neg h2]
      rw [hc]
      go_enter Tryd.func43, Tryd.ntmps43
      go_wp2
      go_ret
      exact ⟨rfl, rfl⟩
theorem cmpL_any (a b : Int) (w : World) : Calls Tryd.prog 44 #[.int .i64 a, .int .i64 b] w fun e w' => e = .returned (.int .i64 (cmpI a b)) ∧ w' = w := by
  by_cases h1 : a < b
  · have hc : cmpI a b = -1 := by unfold cmpI; rw [if_pos h1]
    rw [hc]
    go_enter Tryd.func44, Tryd.ntmps44
    go_wp2
    go_ret
    exact ⟨rfl, rfl⟩
  · by_cases h2 : b < a
    · have hc : cmpI a b = 1 := by unfold cmpI; rw [if_neg h1, if_pos h2]
      rw [hc]
      go_enter Tryd.func44, Tryd.ntmps44
      go_wp2
      go_ret
      exact ⟨rfl, rfl⟩
    · have hc : cmpI a b = 0 := by unfold cmpI; rw [if_neg h1, if_neg h2]
      rw [hc]
      go_enter Tryd.func44, Tryd.ntmps44
      go_wp2
      go_ret
      exact ⟨rfl, rfl⟩
theorem cmpS_any (a b : ByteArray) (w : World) : Calls Tryd.prog 45 #[.string a, .string b] w fun e w' => e = .returned (.int .i64 (cmpS a b)) ∧ w' = w := by
  cases h1 : Op.bytesLess a.toList b.toList
  · cases h2 : (a.toList == b.toList)
    · have hc : cmpS a b = 1 := by unfold cmpS; rw [h1, h2]; rfl
      rw [hc]
      go_enter Tryd.func45, Tryd.ntmps45
      go_wp2
      go_ret
      exact ⟨rfl, rfl⟩
    · have hc : cmpS a b = 0 := by unfold cmpS; rw [h1, h2]; rfl
      rw [hc]
      go_enter Tryd.func45, Tryd.ntmps45
      go_wp2
      go_ret
      exact ⟨rfl, rfl⟩
  · have hc : cmpS a b = -1 := by unfold cmpS; rw [h1]; rfl
    rw [hc]
    go_enter Tryd.func45, Tryd.ntmps45
    go_wp2
    go_ret
    exact ⟨rfl, rfl⟩
theorem or_any (a b c : Int) (g : Nat) (w : World) (h0 : w.cell? ⟨g, 0, none⟩ = some (.int .i64 a)) (h1 : w.cell? ⟨g, 1, none⟩ = some (.int .i64 b)) (h2 : w.cell? ⟨g, 2, none⟩ = some (.int .i64 c)) :
    Calls Tryd.prog 42 #[.slice (some ⟨g, 0, none⟩) 3 3] w fun e w' => e = .returned (.int .i64 (first3 a b c)) ∧ w' = w := by
  have hcell : ∀ i : Nat, i < 3 → w.cell? ⟨g, i, none⟩ = some (.int .i64 ([a, b, c].getD i 0)) := fun i hi => by
    match i, hi with
    | 0, _ => exact h0
    | 1, _ => exact h1
    | 2, _ => exact h2
  have Hc := Lib.hid hcell
  clear hcell h0 h1 h2
  go_enter Tryd.func42, Tryd.ntmps42
  go_wp2
  go_loop [8] (fun v => ∃ i : Nat, i ≤ 3 ∧ v = .int .i64 i ∧ Hid (∀ j, j < i → [a, b, c].getD j 0 = 0)) (fun v => 3 - (intOf v).toNat)
  case atStart => exact ⟨0, by omega, rfl, Lib.hid (fun j hj => absurd hj (Nat.not_lt_zero _))⟩
  case round =>
    obtain ⟨i, hi, rfl, HA⟩ := hrel
    by_cases hi3 : i < 3
    · have hc := Hc.out i hi3
      obtain ⟨x, hx⟩ : ∃ x, x = [a, b, c].getD i 0 := ⟨_, rfl⟩
      rw [← hx] at hc
      have Hx := Lib.hid hx
      clear hx
      by_cases hx0 : x = 0
      · have Hx0 := Lib.hid hx0
        have hxb : (x != 0) = false := by rw [bne_eq_false_iff_eq]; exact hx0
        clear hx0
        go_wp2
        go_round
        case rel =>
          refine ⟨i + 1, by omega, by go_num, Lib.hid fun j hj => ?_⟩
          rcases Nat.lt_succ_iff_lt_or_eq.1 hj with h | rfl
          · exact HA.out j h
          · rw [← Hx.out, Hx0.out]
        case measure => simp [intOf]; omega
      · have hxb : (x != 0) = true := bne_iff_ne.2 hx0
        have Hx0 := Lib.hid hx0
        clear hx0
        go_wp2
        go_ret
        refine ⟨?_, rfl⟩
        have hf : first3 a b c = x := by
          have hA := HA.out
          have hx := Hx.out
          have hx0 := Hx0.out
          unfold first3
          match i, hi3 with
          | 0, _ => simp at hx; subst hx; rw [if_pos hx0]
          | 1, _ =>
            have := hA 0 (by omega)
            simp at hx this; subst hx this; rw [if_neg (by simp), if_pos hx0]
          | 2, _ =>
            have := hA 0 (by omega)
            have h1 := hA 1 (by omega)
            simp at hx this h1; subst hx this h1; rw [if_neg (by simp), if_neg (by simp)]
        rw [hf]
        rfl
    · obtain rfl : i = 3 := by omega
      go_wp2
      go_ret
      refine ⟨?_, rfl⟩
      have hA := HA.out
      have e0 := hA 0 (by omega)
      have e1 := hA 1 (by omega)
      have e2 := hA 2 (by omega)
      simp at e0 e1 e2
      subst e0 e1 e2
      rfl
theorem or_blk (a b c : Int) (g : Nat) (T : TypeId) (fr : Nat × Nat) (w : World) (h : w.heap[g]? = some (.cells #[.int .i64 a, .int .i64 b, .int .i64 c] T fr)) :
    Calls Tryd.prog 42 #[.slice (some ⟨g, 0, none⟩) 3 3] w fun e w' => e = .returned (.int .i64 (first3 a b c)) ∧ w' = w :=
  or_any a b c g w (by rw [Lib.cell_of_heap h]; rfl) (by rw [Lib.cell_of_heap h]; rfl) (by rw [Lib.cell_of_heap h]; rfl)
theorem or_new (a b c : Int) (w1 : World) : Calls Tryd.prog 42 #[.slice (some ⟨w1.heap.size, 0, none⟩) 3 3] (w1.alloc (.cells #[.int .i64 a, .int .i64 b, .int .i64 c] 3)).drew fun e w' => e = .returned (.int .i64 (first3 a b c)) ∧ w' = (w1.alloc (.cells #[.int .i64 a, .int .i64 b, .int .i64 c] 3)).drew :=
  or_blk a b c w1.heap.size 3 (0, 0) _ (heap_alloc_new w1 _)
theorem cmp1_any (v u : V) (w : World) : Calls Tryd.prog 41 #[vv v, vv u] w fun e w' => e = .returned (.int .i64 (one v u)) ∧ Below w.heap.size w w' := by
  unfold vv
  go_enter Tryd.func41, Tryd.ntmps41
  go_wp2
  obtain ⟨w1, hw1⟩ : ∃ w1, w1 = (w.alloc (.cells #[.int .i64 v.k, .int .i64 v.n, .string v.s] 23)).alloc (.cells #[.int .i64 u.k, .int .i64 u.n, .string u.s] 23) := ⟨_, rfl⟩
  have hB1 : Below w.heap.size w w1 := by rw [hw1]; exact ((Below.refl _ _).alloc (Nat.le_refl _) _).alloc (by simp) _
  have k0 : w1.cell? ⟨w.heap.size, 0, none⟩ = some (.int .i64 v.k) := by rw [hw1]; go_simp
  have k1 : w1.cell? ⟨w.heap.size, 1, none⟩ = some (.int .i64 v.n) := by rw [hw1]; go_simp
  have k2 : w1.cell? ⟨w.heap.size, 2, none⟩ = some (.string v.s) := by rw [hw1]; go_simp
  have k3 : w1.cell? ⟨w.heap.size + 1, 0, none⟩ = some (.int .i64 u.k) := by rw [hw1]; go_simp
  have k4 : w1.cell? ⟨w.heap.size + 1, 1, none⟩ = some (.int .i64 u.n) := by rw [hw1]; go_simp
  have k5 : w1.cell? ⟨w.heap.size + 1, 2, none⟩ = some (.string u.s) := by rw [hw1]; go_simp
  rw [← hw1]
  have HW := Lib.hid hw1
  clear hw1
  go_region_held3 (fun w' => w'.cell? ⟨w.heap.size, 0, none⟩ = some (.int .i64 v.k) ∧ w'.cell? ⟨w.heap.size, 1, none⟩ = some (.int .i64 v.n) ∧ w'.cell? ⟨w.heap.size, 2, none⟩ = some (.string v.s) ∧ w'.cell? ⟨w.heap.size + 1, 0, none⟩ = some (.int .i64 u.k) ∧ w'.cell? ⟨w.heap.size + 1, 1, none⟩ = some (.int .i64 u.n) ∧ w'.cell? ⟨w.heap.size + 1, 2, none⟩ = some (.string u.s)) (first | exact ⟨k0, k1, k2, k3, k4, k5⟩ | go_keep) (first | (go_at_call 43; refine (cmpI_any _ _ _).mono ?_; rintro e w' ⟨rfl, rfl⟩) | (go_at_call 44; refine (cmpL_any _ _ _).mono ?_; rintro e w' ⟨rfl, rfl⟩) | (go_at_call 45; refine (cmpS_any _ _ _).mono ?_; rintro e w' ⟨rfl, rfl⟩) | (go_at_call 42; refine (or_new _ _ _ _).mono ?_; rintro e w' ⟨rfl, rfl⟩))
  go_wp2
  go_ret
  exact ⟨rfl, (hB1.alloc hB1.size _).drew⟩
theorem one_any (v u : V) (w : World) : Calls Tryd.prog 46 #[vv v, vv u] w fun e w' => e = .returned (.int .i64 (one v u)) ∧ Below w.heap.size w w' := by
  have hB : Below w.heap.size w ((w.alloc (.cells #[.int .i64 v.k, .int .i64 v.n, .string v.s] 23)).alloc (.cells #[.int .i64 u.k, .int .i64 u.n, .string u.s] 23)) := ((Below.refl _ _).alloc (Nat.le_refl _) _).alloc (by simp) _
  unfold vv
  by_cases a1 : v.k < u.k
  · rw [show one v u = -1 by unfold one first3 cmpI; simp [a1]]
    go_enter Tryd.func46, Tryd.ntmps46
    go_wp2
    go_ret
    exact ⟨rfl, hB⟩
  by_cases a2 : u.k < v.k
  · rw [show one v u = 1 by unfold one first3 cmpI; simp [a1, a2]]
    go_enter Tryd.func46, Tryd.ntmps46
    go_wp2
    go_ret
    exact ⟨rfl, hB⟩
  by_cases a3 : v.n < u.n
  · rw [show one v u = -1 by unfold one first3 cmpI; simp [a1, a2, a3]]
    go_enter Tryd.func46, Tryd.ntmps46
    go_wp2
    go_ret
    exact ⟨rfl, hB⟩
  by_cases a4 : u.n < v.n
  · rw [show one v u = 1 by unfold one first3 cmpI; simp [a1, a2, a3, a4]]
    go_enter Tryd.func46, Tryd.ntmps46
    go_wp2
    go_ret
    exact ⟨rfl, hB⟩
  cases a5 : Op.bytesLess v.s.toList u.s.toList
  · cases a6 : (v.s.toList == u.s.toList)
    · rw [show one v u = 1 by unfold one first3 cmpI cmpS; simp [a1, a2, a3, a4, a5, a6]]
      go_enter Tryd.func46, Tryd.ntmps46
      go_wp2
      go_ret
      exact ⟨rfl, hB⟩
    · rw [show one v u = 0 by unfold one first3 cmpI cmpS; simp [a1, a2, a3, a4, a5, a6]]
      go_enter Tryd.func46, Tryd.ntmps46
      go_wp2
      go_ret
      exact ⟨rfl, hB⟩
  · rw [show one v u = -1 by unfold one first3 cmpI cmpS; simp [a1, a2, a3, a4, a5]]
    go_enter Tryd.func46, Tryd.ntmps46
    go_wp2
    go_ret
    exact ⟨rfl, hB⟩
end Go.Proofs.YtgfjfpghjjknlaaDoor
