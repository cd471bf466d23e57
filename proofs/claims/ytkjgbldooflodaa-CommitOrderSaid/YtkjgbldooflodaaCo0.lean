/-
  A heap's row: two of its texts change places.
-/
import Derived.Test.YtkjgbldooflodaaCmR
import Derived.Test.YtkjgbldooflodaaCn1
import Derived.BigRegion
import Derived.BigQuiet
namespace Go.Proofs.Ytkjgbldooflodaa
open Go.RowKit Cm Mp
set_option maxRecDepth 100000
set_option linter.unusedVariables false
set_option linter.unusedSimpArgs false
/-- Two places' texts, changed for one another. -/
def swapL (l : List ByteArray) (i j : Nat) : List ByteArray := (l.set i (l.getD j ⟨#[]⟩)).set j (l.getD i ⟨#[]⟩)
theorem swapL_length (l : List ByteArray) (i j : Nat) : (swapL l i j).length = l.length := by simp [swapL]
theorem swapL_perm (l : List ByteArray) (i j : Nat) (hi : i < l.length) (hj : j < l.length) : (swapL l i j).Perm l := by
  have h := Array.swap_perm (xs := l.toArray) (i := i) (j := j) (by simpa using hi) (by simpa using hj)
  have h2 := Array.perm_iff_toList_perm.1 h
  unfold swapL
  rw [List.getD_eq_getElem?_getD, List.getD_eq_getElem?_getD, List.getElem?_eq_getElem hi, List.getElem?_eq_getElem hj]
  rw [Array.swap_def] at h2
  simpa using h2
theorem rowS_set {w : World} {B g n c i : Nat} {l : List ByteArray} (h : w.ownsRow B 9 1 (.slice (some ⟨g, 0, none⟩) n c) n (l.map Value.string)) (hi : i < n) (x : ByteArray) :
    (w.setCell ⟨g, i, none⟩ (.string x)).ownsRow B 9 1 (.slice (some ⟨g, 0, none⟩) n c) n ((l.set i x).map Value.string) := by
  rcases h.2 with ⟨e1, _⟩ | ⟨g', cap, cur, e1, hb, hg, hn, hm, hs, ht⟩
  · cases e1
  · injection e1 with e1 _ e3
    injection e1 with e1
    injection e1 with e1 _ _
    subst e1 e3
    refine ⟨by have := h.1; simpa using this, .inr ⟨g, c, cur.setIfInBounds i (.string x), rfl, hb, block_set hg _, hn, hm, by simpa using hs, ?_⟩⟩
    rw [Array.toList_setIfInBounds, List.map_set]
    rw [show n * 1 = n from Nat.mul_one n] at ht ⊢
    rw [List.take_set, ht]
theorem row_at {w : World} {B g n c i : Nat} {l : List ByteArray} {x : ByteArray} (h : w.ownsRow B 9 1 (.slice (some ⟨g, 0, none⟩) n c) n (l.map Value.string)) (hx : l[i]? = some x) : w.cell? ⟨g, i, none⟩ = some (.string x) := by
  have := h.cells rfl i (.string x) (by rw [List.getElem?_map, hx]; rfl)
  rwa [addr_add0] at this
theorem row_thaw {w : World} {B g n c i : Nat} {xs : List Value} (h : w.ownsRow B 9 1 (.slice (some ⟨g, 0, none⟩) n c) n xs) : w.frozen? ⟨g, i, none⟩ = false := by
  rcases h.2 with ⟨e1, _⟩ | ⟨g', cap, cur, e1, hb, hg, _⟩
  · cases e1
  · injection e1 with e1 _ e3
    injection e1 with e1
    injection e1 with e1 _ _
    subst e1
    simp [World.frozen?, hg]
theorem less_any (B rb c n : Nat) (l : List ByteArray) (i j : Nat) (w : World) (h : w.ownsRow B 9 1 (.slice (some ⟨rb, 0, none⟩) n c) n (l.map Value.string)) (hl : n = l.length) (hi : i < n) (hj : j < n) (hn : n ≤ 1000000) :
    Calls Try.prog 88 #[.slice (some ⟨rb, 0, none⟩) n c, .int .i64 i, .int .i64 j] w fun e w' => ∃ bo, e = .returned (.bool bo) ∧ Below w.heap.size w w' := by
  obtain ⟨a, ha⟩ : ∃ a, l[i]? = some a := ⟨l[i]'(by omega), List.getElem?_eq_getElem (by omega)⟩
  obtain ⟨b, hb⟩ : ∃ b, l[j]? = some b := ⟨l[j]'(by omega), List.getElem?_eq_getElem (by omega)⟩
  have ca := row_at h ha
  have cb := row_at h hb
  have i1 : (i : Int) < n := by omega
  have j1 : (j : Int) < n := by omega
  clear ha hb hl
  go_enter Try.func88, Try.ntmps88
  go_wp2
  go_quiet (fail)
  all_goals (
    go_wp2
    go_ret
    exact ⟨_, rfl, by first | exact (Below.refl _ _).drew | exact below_drewN (Below.refl _ _) _⟩)
theorem swap_any (B rb c n : Nat) (l : List ByteArray) (i j : Nat) (w : World) (h : w.ownsRow B 9 1 (.slice (some ⟨rb, 0, none⟩) n c) n (l.map Value.string)) (hl : n = l.length) (hi : i < n) (hj : j < n) (hn : n ≤ 1000000) :
    Calls Try.prog 91 #[.slice (some ⟨rb, 0, none⟩) n c, .int .i64 i, .int .i64 j] w fun e w' => e = .returned (.tuple #[]) ∧ w'.ownsRow B 9 1 (.slice (some ⟨rb, 0, none⟩) n c) n ((swapL l i j).map Value.string) ∧ w.grownBy w' (some rb) := by
  obtain ⟨a, ha⟩ : ∃ a, l[i]? = some a := ⟨l[i]'(by omega), List.getElem?_eq_getElem (by omega)⟩
  obtain ⟨b, hb⟩ : ∃ b, l[j]? = some b := ⟨l[j]'(by omega), List.getElem?_eq_getElem (by omega)⟩
  have ca := row_at h ha
  have cb := row_at h hb
  have fa : w.frozen? ⟨rb, i, none⟩ = false := row_thaw h
  have hsw : swapL l i j = (l.set i b).set j a := by
    unfold swapL
    rw [List.getD_eq_getElem?_getD, List.getD_eq_getElem?_getD, ha, hb]
    rfl
  have h1 := rowS_set h hi b
  have h2 := rowS_set h1 hj a
  have hgb : (l.set i b)[j]? = some b := by
    rw [List.getElem?_set]
    by_cases hij : i = j
    · rw [if_pos hij, if_pos (by omega)]
    · rw [if_neg hij]; exact hb
  have cb1 := row_at h1 hgb
  have fb1 : (w.setCell ⟨rb, i, none⟩ (.string b)).frozen? ⟨rb, j, none⟩ = false := row_thaw h1
  have i1 : (i : Int) < n := by omega
  have j1 : (j : Int) < n := by omega
  rw [hsw]
  have hG : w.grownBy ((w.setCell ⟨rb, i, none⟩ (.string b)).setCell ⟨rb, j, none⟩ (.string a)) (some rb) := (gb_set w ⟨rb, i, none⟩ _).trans (gb_set _ ⟨rb, j, none⟩ _)
  have HH := Lib.hid (And.intro h2 hG)
  clear ha hb hl hsw h1 h2 hgb h hG
  go_enter Try.func91, Try.ntmps91
  go_wp2
  go_region
  all_goals (
    go_wp2
    exact ⟨rfl, .tuple #[], by simp [results, Try.results91, go_sem], rfl, HH.out.1.drew, HH.out.2.trans (gb_of_below ((Below.refl _ _).drew) _)⟩)
theorem But.of_grown {fb rb : Nat} {w w' : World} (h : w.grownBy w' (some rb)) : But fb rb w w' := ⟨h.os, h.tape, h.output, h.size, fun k hk _ h2 => h.block k hk (by simpa using h2)⟩
theorem mLess {ad : Addr} {w : World} {v : Value} (h : w.cell? ad = some v) : (Go.method 246 81 (.pointer (some ad)) "Less").run Try.prog w = .ok (88, v) w := mVal "Less" _ h (by kernel_rfl)
theorem Bx.cell {w : World} {B fb rb c : Nat} {l : List ByteArray} (h : Bx w B fb rb c l) : w.cell? ⟨fb, 0, none⟩ = some (.slice (some ⟨rb, 0, none⟩) l.length c) := by rw [Lib.cell_of_heap h.box]; rfl
theorem Bx.swapped {w w' : World} {B fb rb c : Nat} {l l' : List ByteArray} (h : Bx w B fb rb c l) (hl : l'.length = l.length) (hg : w.grownBy w' (some rb)) (hr : w'.ownsRow B 9 1 (.slice (some ⟨rb, 0, none⟩) l.length c) l.length (l'.map Value.string)) : Bx w' B fb rb c l' := by
  refine ⟨?_, by rw [hl]; exact hr⟩
  rw [hl]
  exact (hg.block fb (Array.getElem?_eq_some_iff.1 h.box).1 (by have := h.ne; simpa using this)).trans h.box
set_option maxHeartbeats 2000000 in
/-- heap.up: the texts are the same ones. -/
theorem up_gen (B fb rb c : Nat) (l : List ByteArray) (j : Nat) (w : World) (h : Bx w B fb rb c l) (hj : j < l.length) (hn : l.length ≤ 1000000) :
    Calls Try.prog 53 #[lp fb, .int .i64 j] w fun e w' => e = .returned (.tuple #[]) ∧ ∃ l', Bx w' B fb rb c l' ∧ l'.Perm l ∧ But fb rb w w' := by
  unfold lp
  go_enter Try.func53, Try.ntmps53
  go_wp2
  go_loopw [1] (fun v wr => ∃ (k : Nat) (l1 : List ByteArray), v = .int .i64 k ∧ k < l.length ∧ Bx wr B fb rb c l1 ∧ Hid (l1.Perm l) ∧ But fb rb w wr) (fun v _ => (intOf v).toNat)
  case atStart => exact ⟨j, l, by first | rfl | trivial, hj, h, Lib.hid (List.Perm.refl _), But.of_below (Below.refl _ _)⟩
  case round =>
    obtain ⟨k, l1, rfl, hk, hb, HP, hbut⟩ := hrel
    have hk1 : k < l1.length := by rw [HP.out.length_eq]; exact hk
    have hn1 : l1.length ≤ 1000000 := by rw [HP.out.length_eq]; exact hn
    by_cases hk0 : k = 0
    · subst hk0
      go_wp2
      exact ⟨rfl, .tuple #[], by simp [results, Try.results53, go_sem], rfl, l1, hb, HP.out, hbut⟩
    · obtain ⟨p, hp, hpk⟩ : ∃ p : Nat, ((k : Int) - 1).tdiv 2 = p ∧ p < k := ⟨(k - 1) / 2, by
        rw [show (k : Int) - 1 = ((k - 1 : Nat) : Int) by omega, Int.tdiv_eq_ediv_of_nonneg (by omega)]
        omega, by omega⟩
      have d1 : IntKind.i64.wrap ((k : Int) - 1) = (k : Int) - 1 := wrap_fit _ (by omega) (by omega)
      have d3 : IntKind.i64.wrap (p : Int) = p := wrap_fit _ (by omega) (by omega)
      have d4 : ((p : Int) == k) = false := beq_eq_false_iff_ne.2 (by omega)
      have m1 := mLess hb.cell
      have q1 := less_any B rb c l1.length l1 k p wr hb.row rfl (by omega) (by omega) (by omega)
      go_wp2_with (fail)
      go_at_call 88
      with_reducible refine q1.mono ?_
      rintro e w4 ⟨bo, rfl, hb4⟩
      have hx4 := hb.below hb4
      have hbut4 := hbut.trans (But.of_below hb4)
      cases bo
      · clear hb m1 q1 hbut
        go_wp2
        exact ⟨rfl, .tuple #[], by simp [results, Try.results53, go_sem], rfl, l1, hx4, HP.out, hbut4⟩
      · have m2 := mSwap hx4.cell
        have q2 := swap_any B rb c l1.length l1 p k w4 hx4.row rfl (by omega) (by omega) (by omega)
        clear hb m1 q1 hbut
        go_wp2_with (fail)
        go_at_call 91
        with_reducible refine q2.mono ?_
        rintro e w5 ⟨rfl, hr5, hg5⟩
        have hx5 := hx4.swapped (swapL_length l1 p k) hg5 hr5
        have hbut5 := hbut4.trans (But.of_grown hg5)
        have HP5 := Lib.hid ((swapL_perm l1 p k (by omega) (by omega)).trans HP.out)
        clear hx4 hbut4 m2 q2 hr5 hg5
        go_wp2
        go_roundw
        case rel => exact ⟨p, _, by first | rfl | trivial, by omega, hx5, HP5, hbut5⟩
        case measure => simp [intOf]; omega
end Go.Proofs.Ytkjgbldooflodaa
