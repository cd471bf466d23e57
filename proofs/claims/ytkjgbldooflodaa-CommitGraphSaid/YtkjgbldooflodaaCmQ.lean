/-
  The heap of prints at one print: heap.Pop of the only one, heap.Push onto none.
-/
import Derived.Test.YtkjgbldooflodaaCmP
namespace Go.Proofs.Ytkjgbldooflodaa
open Go.RowKit Cm Mp
set_option maxRecDepth 100000
set_option linter.unusedVariables false
set_option linter.unusedSimpArgs false
theorem len_any (o : Option Addr) (n c : Nat) (w : World) : Calls Try.prog 37 #[.slice o n c] w fun e w' => e = .returned (.int .i64 n) ∧ w' = w := by
  go_enter Try.func37, Try.ntmps37
  go_wp2
  go_ret
  exact ⟨rfl, rfl⟩
theorem set_same {w : World} {g : Nat} {cs : Array Value} {T : TypeId} {fr : Nat × Nat} (h : w.heap[g]? = some (.cells cs T fr)) (i : Nat) (v : Value) (hv : cs[i]? = some v) : ∀ k : Nat, (w.setCell ⟨g, i, none⟩ v).heap[k]? = w.heap[k]? := by
  intro k
  by_cases hk : k = g
  · subst hk
    rw [block_set h, h]
    congr 2
    apply Array.ext_getElem?
    intro j
    by_cases hj : j = i
    · subst hj
      rw [hv]
      have := (Array.getElem?_eq_some_iff.1 hv).1
      simp [this]
    · rw [Array.getElem?_setIfInBounds_ne (by omega)]
  · exact Below.heap_setCell _ _ _ _ hk
theorem swap_one (rb c : Nat) (x : ByteArray) (cs : Array Value) (T : TypeId) (w : World) (hb : w.heap[rb]? = some (.cells cs T (0, 0))) (hx : cs[0]? = some (.string x)) :
    Calls Try.prog 91 #[.slice (some ⟨rb, 0, none⟩) 1 c, .int .i64 0, .int .i64 0] w fun e w' => e = .returned (.tuple #[]) ∧ Below w.heap.size w w' := by
  have k0 : w.cell? ⟨rb, 0, none⟩ = some (.string x) := by rw [Lib.cell_of_heap hb]; exact hx
  have f0 : w.frozen? ⟨rb, 0, none⟩ = false := by simp [World.frozen?, hb]
  have hs := set_same hb 0 (.string x) hx
  have hb1 : (w.setCell ⟨rb, 0, none⟩ (.string x)).heap[rb]? = some (.cells cs T (0, 0)) := (hs rb).trans hb
  have hs1 := set_same hb1 0 (.string x) hx
  have hb2 := (hs1 rb).trans hb1
  have KS1 : (w.setCell ⟨rb, 0, none⟩ (.string x)).drew.cell? ⟨rb, 0, none⟩ = some (.string x) := by show (w.setCell ⟨rb, 0, none⟩ (.string x)).cell? _ = _; rw [Lib.cell_of_heap hb1]; exact hx
  have KS2 : ((w.setCell ⟨rb, 0, none⟩ (.string x)).setCell ⟨rb, 0, none⟩ (.string x)).drew.cell? ⟨rb, 0, none⟩ = some (.string x) := by show ((w.setCell ⟨rb, 0, none⟩ (.string x)).setCell ⟨rb, 0, none⟩ (.string x)).cell? _ = _; rw [Lib.cell_of_heap hb2]; exact hx
  have hB : Below w.heap.size w ((w.setCell ⟨rb, 0, none⟩ (.string x)).setCell ⟨rb, 0, none⟩ (.string x)) := ⟨rfl, rfl, rfl, by simp [World.setCell], fun k hk => (hs1 k).trans (hs k)⟩
  go_enter Try.func91, Try.ntmps91
  go_wp2
  go_region_held3 (fun w' => w'.cell? ⟨rb, 0, none⟩ = some (.string x)) (first | exact k0 | exact KS1 | exact KS2 | go_keep) (fail)
  all_goals (
    go_wp2
    exact ⟨rfl, .tuple #[], by simp [results, Try.results91, go_sem], rfl, by first | exact hB.drew | exact below_drewN hB _⟩)
theorem down_none (it : Value) (w : World) : Calls Try.prog 52 #[it, .int .i64 0, .int .i64 0] w fun e w' => e = .returned (.bool false) ∧ w' = w := by
  go_enter Try.func52, Try.ntmps52
  go_wp2
  go_loopw [7] (fun v wr => v = .int .i64 0 ∧ wr = w) (fun _ _ => 0)
  case atStart => exact ⟨rfl, rfl⟩
  case round =>
    obtain ⟨rfl, rfl⟩ := hrel
    go_wp2
    go_ret
    exact ⟨rfl, rfl⟩
theorem up_none (it : Value) (w : World) : Calls Try.prog 53 #[it, .int .i64 0] w fun e w' => e = .returned (.tuple #[]) ∧ w' = w := by
  go_enter Try.func53, Try.ntmps53
  go_wp2
  go_loopw [1] (fun v wr => v = .int .i64 0 ∧ wr = w) (fun _ _ => 0)
  case atStart => exact ⟨rfl, rfl⟩
  case round =>
    obtain ⟨rfl, rfl⟩ := hrel
    go_wp2
    exact ⟨rfl, .tuple #[], by simp [results, Try.results53, go_sem], rfl, rfl⟩
/-- The heap's box holds a slice onto a row of its own. -/
structure Bx (w : World) (B fb rb c : Nat) (l : List ByteArray) : Prop where
  box : w.heap[fb]? = some (.cells #[.slice (some ⟨rb, 0, none⟩) l.length c] 82 (0, 0))
  row : w.ownsRow B 9 1 (.slice (some ⟨rb, 0, none⟩) l.length c) l.length (l.map Value.string)
theorem Bx.below {w w' : World} {B fb rb c : Nat} {l : List ByteArray} (h : Bx w B fb rb c l) (hb : Below w.heap.size w w') : Bx w' B fb rb c l :=
  ⟨(hb.block fb (Array.getElem?_eq_some_iff.1 h.box).1).trans h.box, h.row.kept (gb_of_below hb none) (.inr (by simp [Value.ownBlock]))⟩
theorem Bx.ne {w : World} {B fb rb c : Nat} {l : List ByteArray} (h : Bx w B fb rb c l) : fb ≠ rb := by
  intro e
  rcases h.row.2 with ⟨e1, _⟩ | ⟨g, cap, cur, e1, _, hb, _⟩
  · cases e1
  · injection e1 with e1 _ _
    injection e1 with e1
    injection e1 with e1 _ _
    rw [← e1, ← e, h.box] at hb
    injection hb with hb
    injection hb with _ hb _
    exact absurd hb (by decide)
/-- w' is w but for the heap's box and its row. -/
def But (fb rb : Nat) (w w' : World) : Prop := w'.os = w.os ∧ w'.tape = w.tape ∧ w'.output = w.output ∧ w.heap.size ≤ w'.heap.size ∧ ∀ k, k < w.heap.size → k ≠ fb → k ≠ rb → w'.heap[k]? = w.heap[k]?
theorem But.of_below {fb rb : Nat} {w w' : World} (h : Below w.heap.size w w') : But fb rb w w' := ⟨h.os, h.tape, h.output, h.size, fun k hk _ _ => h.block k hk⟩
theorem But.trans {fb rb : Nat} {a b c : World} (h : But fb rb a b) (k : But fb rb b c) : But fb rb a c :=
  ⟨k.1.trans h.1, k.2.1.trans h.2.1, k.2.2.1.trans h.2.2.1, Nat.le_trans h.2.2.2.1 k.2.2.2.1, fun i hi h1 h2 => (k.2.2.2.2 i (Nat.lt_of_lt_of_le hi h.2.2.2.1) h1 h2).trans (h.2.2.2.2 i hi h1 h2)⟩
theorem But.set {fb rb : Nat} {a b : World} (h : But fb rb a b) (i : Nat) (v : Value) : But fb rb a (b.setCell ⟨fb, i, none⟩ v) :=
  ⟨h.1, h.2.1, h.2.2.1, by simpa [World.setCell] using h.2.2.2.1, fun k hk h1 h2 => (Below.heap_setCell _ _ _ _ h1).trans (h.2.2.2.2 k hk h1 h2)⟩
theorem gb_set (w : World) (p : Addr) (v : Value) : w.grownBy (w.setCell p v) (some p.block) := ⟨rfl, rfl, rfl, by simp [World.setCell], fun k _ hne => Below.heap_setCell _ _ _ _ (fun e => hne (by rw [e]))⟩
theorem pop_box (B fb rb c : Nat) (x : ByteArray) (w : World) (h : Bx w B fb rb c [x]) :
    Calls Try.prog 89 #[.pointer (some ⟨fb, 0, none⟩)] w fun e w' => e = .returned (.iface 9 (.string x)) ∧ Bx w' B fb rb c [] ∧ But fb rb w w' := by
  have k0 : w.cell? ⟨fb, 0, none⟩ = some (.slice (some ⟨rb, 0, none⟩) 1 c) := by rw [Lib.cell_of_heap h.box]; rfl
  have f0 : w.frozen? ⟨fb, 0, none⟩ = false := by simp [World.frozen?, h.box]
  have k1 : w.cell? ⟨rb, 0, none⟩ = some (.string x) := h.row.cells rfl 0 (.string x) rfl
  have hc : 1 ≤ c := by
    rcases h.row.2 with ⟨e1, _⟩ | ⟨g, cap, cur, e1, _, hb, hcap, _⟩
    · cases e1
    · injection e1 with _ _ e1
      subst e1
      exact hcap
  have hc2 : (0 : Int) ≤ c := by omega
  go_enter Try.func89, Try.ntmps89
  go_wp2
  go_ret
  refine ⟨rfl, ⟨block_set h.box (i := 0) (.slice (some ⟨rb, 0, none⟩) 0 c), ?_⟩, (But.of_below (Below.refl _ _)).set 0 _⟩
  refine World.ownsRow.kept (w := w) (row := some fb) ?_ (gb_set w ⟨fb, 0, none⟩ _) (.inr ?_)
  · exact ownsRow_pop (n := 0) (size := 1) (xs := []) (last := [.string x]) rfl h.row
  · have := h.ne
    simp [Value.ownBlock]
    omega
theorem hpop_one (B fb rb c : Nat) (x : ByteArray) (w : World) (h : Bx w B fb rb c [x]) :
    Calls Try.prog 38 #[lp fb] w fun e w' => e = .returned (.iface 9 (.string x)) ∧ Bx w' B fb rb c [] ∧ But fb rb w w' := by
  have k0 : w.cell? ⟨fb, 0, none⟩ = some (.slice (some ⟨rb, 0, none⟩) 1 c) := by rw [Lib.cell_of_heap h.box]; rfl
  have m1 := mLen k0
  have m2 := mSwap k0
  have m3 := mPop
  have hsw : Calls Try.prog 91 #[.slice (some ⟨rb, 0, none⟩) 1 c, .int .i64 0, .int .i64 0] w fun e w' => e = .returned (.tuple #[]) ∧ Below w.heap.size w w' := by
    rcases h.row.2 with ⟨e1, _⟩ | ⟨g, cap, cur, e1, _, hb, _, _, hcs, htk⟩
    · cases e1
    · injection e1 with e1 _ e3
      injection e1 with e1
      injection e1 with e1 _ _
      subst e1
      refine swap_one rb c x cur _ w hb ?_
      have : (cur.toList.take 1)[0]? = some (.string x) := by
        have h2 : cur.toList.take 1 = [.string x] := htk
        rw [h2]
        rfl
      rw [List.getElem?_take_of_lt (by decide)] at this
      simpa using this
  unfold lp
  go_enter Try.func38, Try.ntmps38
  go_wp2_with (first | (go_at_call 37; refine (len_any _ _ _ _).mono ?_; rintro e w1 ⟨rfl, rfl⟩) | (go_at_call 91; refine hsw.mono ?_; rintro e w2 ⟨rfl, hb2⟩) | (go_at_call 52; refine (down_none _ _).mono ?_; rintro e w3 ⟨rfl, rfl⟩) | (go_at_call 89; refine (pop_box B fb rb c x _ (h.below hb2)).mono ?_; rintro e w4 ⟨rfl, hb4, hbut⟩))
  go_ret
  exact ⟨rfl, hb4, (But.of_below hb2).trans hbut⟩
end Go.Proofs.Ytkjgbldooflodaa
