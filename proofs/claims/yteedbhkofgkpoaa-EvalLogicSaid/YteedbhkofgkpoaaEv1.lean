/-
  Walks of small functions of eval, of cell's order and of the reference.
-/
import Derived.Test.YteedbhkofgkpoaaEv0
import Derived.Test.YteedbhkofgkpoaaShelf
import Derived.WalkLawsBesides
import Derived.OwnWalk
import Derived.Below
import Derived.Deep.RegionHeld3
import Derived.Lib.Hide
namespace Go.Proofs.Yteedbhkofgkpoaa
open Go.RowKit Ev
set_option maxRecDepth 100000
set_option linter.unusedVariables false
set_option linter.unusedSimpArgs false
theorem truth_any (b : Bool) (w : World) : Calls Try.prog 30 #[.bool b] w fun e w' => e = .returned (vv (tr b)) ∧ Below w.heap.size w w' := by
  have hb : Below w.heap.size w ((w.alloc (.cells #[.int .i64 2, .int .i64 (bif b then 1 else 0), .string ⟨#[]⟩] 38)).alloc (.cells #[.int .i64 2, .int .i64 (bif b then 1 else 0), .string ⟨#[]⟩] 38)) := ((Below.refl _ _).alloc (Nat.le_refl _) _).alloc (by simp) _
  cases b
  · go_enter Try.func30, Try.ntmps30
    go_wp2
    exact bodyPost_ret (v := vv (tr false)) (by simp [results, Try.results30, go_sem, vv, tr]) rfl ⟨rfl, hb⟩
  · go_enter Try.func30, Try.ntmps30
    go_wp2
    exact bodyPost_ret (v := vv (tr true)) (by simp [results, Try.results30, go_sem, vv, tr]) rfl ⟨rfl, hb⟩
theorem rtruth_any (b : Bool) (w : World) : Calls Try.prog 34 #[.bool b] w fun e w' => e = .returned (vv (tr b)) ∧ Below w.heap.size w w' := by
  cases b
  · go_enter Try.func34, Try.ntmps34
    go_wp2
    exact bodyPost_ret (v := vv (tr false)) (by simp [results, Try.results34, go_sem, vv, tr]) rfl ⟨rfl, (Below.refl _ _).alloc (Nat.le_refl _) _⟩
  · go_enter Try.func34, Try.ntmps34
    go_wp2
    exact bodyPost_ret (v := vv (tr true)) (by simp [results, Try.results34, go_sem, vv, tr]) rfl ⟨rfl, (Below.refl _ _).alloc (Nat.le_refl _) _⟩
theorem null_any (v : Vl) (w : World) : Calls Try.prog 31 #[vv v] w fun e w' => e = .returned (.bool (v.k == 0)) ∧ Below w.heap.size w w' := by
  unfold vv
  go_enter Try.func31, Try.ntmps31
  go_wp2
  go_ret
  exact ⟨rfl, (Below.refl _ _).alloc (Nat.le_refl _) _⟩
theorem cmpI_any (a b : Int) (w : World) : Calls Try.prog 86 #[.int .i64 a, .int .i64 b] w fun e w' => e = .returned (.int .i64 (cmpI a b)) ∧ w' = w := by
  by_cases h1 : a < b
  · have hc : cmpI a b = -1 := by unfold cmpI; rw [if_pos h1]
    rw [hc]
    go_enter Try.func86, Try.ntmps86
    go_wp2
    go_ret
    exact ⟨rfl, rfl⟩
  · by_cases h2 : b < a
    · have hc : cmpI a b = 1 := by unfold cmpI; rw [if_neg h1, if_pos h2]
      rw [hc]
      go_enter Try.func86, Try.ntmps86
      go_wp2
      go_ret
      exact ⟨rfl, rfl⟩
    · have hc : cmpI a b = 0 := by unfold cmpI; rw [if_neg h1, if_neg h2]
      rw [hc]
      go_enter Try.func86, Try.ntmps86
      go_wp2
      go_ret
      exact ⟨rfl, rfl⟩
theorem cmpL_any (a b : Int) (w : World) : Calls Try.prog 87 #[.int .i64 a, .int .i64 b] w fun e w' => e = .returned (.int .i64 (cmpI a b)) ∧ w' = w := by
  by_cases h1 : a < b
  · have hc : cmpI a b = -1 := by unfold cmpI; rw [if_pos h1]
    rw [hc]
    go_enter Try.func87, Try.ntmps87
    go_wp2
    go_ret
    exact ⟨rfl, rfl⟩
  · by_cases h2 : b < a
    · have hc : cmpI a b = 1 := by unfold cmpI; rw [if_neg h1, if_pos h2]
      rw [hc]
      go_enter Try.func87, Try.ntmps87
      go_wp2
      go_ret
      exact ⟨rfl, rfl⟩
    · have hc : cmpI a b = 0 := by unfold cmpI; rw [if_neg h1, if_neg h2]
      rw [hc]
      go_enter Try.func87, Try.ntmps87
      go_wp2
      go_ret
      exact ⟨rfl, rfl⟩
theorem cmpS_any (a b : ByteArray) (w : World) : Calls Try.prog 88 #[.string a, .string b] w fun e w' => e = .returned (.int .i64 (cmpS a b)) ∧ w' = w := by
  cases h1 : Op.bytesLess a.toList b.toList
  · cases h2 : (a.toList == b.toList)
    · have hc : cmpS a b = 1 := by unfold cmpS; rw [h1, h2]; rfl
      rw [hc]
      go_enter Try.func88, Try.ntmps88
      go_wp2
      go_ret
      exact ⟨rfl, rfl⟩
    · have hc : cmpS a b = 0 := by unfold cmpS; rw [h1, h2]; rfl
      rw [hc]
      go_enter Try.func88, Try.ntmps88
      go_wp2
      go_ret
      exact ⟨rfl, rfl⟩
  · have hc : cmpS a b = -1 := by unfold cmpS; rw [h1]; rfl
    rw [hc]
    go_enter Try.func88, Try.ntmps88
    go_wp2
    go_ret
    exact ⟨rfl, rfl⟩
theorem or_any (a b c : Int) (g : Nat) (w : World) (h0 : w.cell? ⟨g, 0, none⟩ = some (.int .i64 a)) (h1 : w.cell? ⟨g, 1, none⟩ = some (.int .i64 b)) (h2 : w.cell? ⟨g, 2, none⟩ = some (.int .i64 c)) :
    Calls Try.prog 85 #[.slice (some ⟨g, 0, none⟩) 3 3] w fun e w' => e = .returned (.int .i64 (first3 a b c)) ∧ w' = w := by
  have hcell : ∀ i : Nat, i < 3 → w.cell? ⟨g, i, none⟩ = some (.int .i64 ([a, b, c].getD i 0)) := fun i hi => by
    match i, hi with
    | 0, _ => exact h0
    | 1, _ => exact h1
    | 2, _ => exact h2
  have Hc := Lib.hid hcell
  clear hcell h0 h1 h2
  go_enter Try.func85, Try.ntmps85
  go_wp2
  go_loop [8] (fun v => ∃ i : Nat, i ≤ 3 ∧ v = .int .i64 i ∧ Hid (∀ j, j < i → [a, b, c].getD j 0 = 0)) (fun v => 3 - (intOf v).toNat)
  case atStart => exact ⟨0, by omega, rfl, Lib.hid (fun j hj => absurd hj (Nat.not_lt_zero _))⟩
  case round =>
    obtain ⟨i, hi, rfl, HA⟩ := hrel
    by_cases hi3 : i < 3
    · have hc := Hc.out i hi3
      obtain ⟨x, hx⟩ : ∃ x, x = [a, b, c].getD i 0 := ⟨_, rfl⟩
      rw [← hx] at hc
      have Hx := Lib.hid hx
      clear hx
      by_cases hx0 : x = 0
      · have Hx0 := Lib.hid hx0
        have hxb : (x != 0) = false := by rw [bne_eq_false_iff_eq]; exact hx0
        clear hx0
        go_wp2
        go_round
        case rel =>
          refine ⟨i + 1, by omega, by go_num, Lib.hid fun j hj => ?_⟩
          rcases Nat.lt_succ_iff_lt_or_eq.1 hj with h | rfl
          · exact HA.out j h
          · rw [← Hx.out, Hx0.out]
        case measure => simp [intOf]; omega
      · have hxb : (x != 0) = true := bne_iff_ne.2 hx0
        have Hx0 := Lib.hid hx0
        clear hx0
        go_wp2
        go_ret
        refine ⟨?_, rfl⟩
        have hf : first3 a b c = x := by
          have hA := HA.out
          have hx := Hx.out
          have hx0 := Hx0.out
          unfold first3
          match i, hi3 with
          | 0, _ => simp at hx; subst hx; rw [if_pos hx0]
          | 1, _ =>
            have := hA 0 (by omega)
            simp at hx this; subst hx this; rw [if_neg (by simp), if_pos hx0]
          | 2, _ =>
            have := hA 0 (by omega)
            have h1 := hA 1 (by omega)
            simp at hx this h1; subst hx this h1; rw [if_neg (by simp), if_neg (by simp)]
        rw [hf]
        rfl
    · obtain rfl : i = 3 := by omega
      go_wp2
      go_ret
      refine ⟨?_, rfl⟩
      have hA := HA.out
      have e0 := hA 0 (by omega)
      have e1 := hA 1 (by omega)
      have e2 := hA 2 (by omega)
      simp at e0 e1 e2
      subst e0 e1 e2
      rfl
end Go.Proofs.Yteedbhkofgkpoaa
