/-
  Words for blocks of whole numbers (arrays of uint32 in a block of their own). No program.
-/
import Derived.Test.YtkjgbldooflodaaSha2
import Derived.Laws.AppendOwn
import Derived.OwnWalk
import Derived.Deep.QuietTactic
namespace Go.Proofs.Ytkjgbldooflodaa
open Go.RowKit
def ivals (k : IntKind) (l : List Int) : Array Value := (l.map (Value.int k)).toArray
/-- Block g holds the numbers l, and nothing of it is frozen. -/
def Blk (k : IntKind) (T : TypeId) (w : World) (g : Nat) (l : List Int) : Prop := w.heap[g]? = some (.cells (ivals k l) T (0, 0))
section
variable {k : IntKind} {T : TypeId} {w : World} {g : Nat} {l : List Int}
theorem ivals_size : (ivals k l).size = l.length := by simp [ivals]
theorem ivals_get (i : Nat) (h : i < l.length) : (ivals k l)[i]? = some (.int k (l.getD i 0)) := by
  simp [ivals, h, List.getD_eq_getElem?_getD]
theorem Blk.cell (h : Blk k T w g l) (i : Nat) (hi : i < l.length) : w.cell? ⟨g, i, none⟩ = some (.int k (l.getD i 0)) := by
  unfold World.cell?
  unfold Blk at h
  simp only [h]
  exact ivals_get i hi
theorem Blk.cell_int (h : Blk k T w g l) (i : Int) (h0 : 0 ≤ i) (hi : i < l.length) : w.cell? ⟨g, i.toNat, none⟩ = some (.int k (l.getD i.toNat 0)) := h.cell _ (by omega)
theorem Blk.cell_at (h : Blk k T w g l) (i : Int) (j : Nat) (hi : i = j) (hj : j < l.length) (x : Int) (hx : x = l.getD j 0) : w.cell? ⟨g, i.toNat, none⟩ = some (.int k x) := by
  subst hi hx
  exact h.cell j hj
theorem Blk.free (h : Blk k T w g l) (a : Addr) (ha : a.block = g) : w.frozen? a = false := by
  unfold World.frozen?
  unfold Blk at h
  simp only [ha, h]
  simp
theorem Blk.lt (h : Blk k T w g l) : g < w.heap.size := (Array.getElem?_eq_some_iff.1 h).1
theorem ivals_set (i : Nat) (v : Int) : (ivals k l).setIfInBounds i (.int k v) = ivals k (l.set i v) := by
  apply Array.ext'
  simp only [ivals, Array.toList_setIfInBounds, List.map_set]
theorem Blk.set (h : Blk k T w g l) (i : Nat) (v : Int) : Blk k T (w.setCell ⟨g, i, none⟩ (.int k v)) g (l.set i v) := by
  unfold Blk at *
  unfold World.setCell
  show (w.heap.modify g _)[g]? = _
  rw [Array.getElem?_modify, if_pos rfl, h]
  simp [ivals_set]
theorem Blk.set8 {v0 v1 v2 v3 v4 v5 v6 v7 : Int} (h : Blk k T w g [v0, v1, v2, v3, v4, v5, v6, v7]) (a0 a1 a2 a3 a4 a5 a6 a7 : Int) :
    Blk k T ((((((((w.setCell ⟨g, 0, none⟩ (.int k a0)).setCell ⟨g, 1, none⟩ (.int k a1)).setCell ⟨g, 2, none⟩ (.int k a2)).setCell ⟨g, 3, none⟩ (.int k a3)).setCell ⟨g, 4, none⟩ (.int k a4)).setCell ⟨g, 5, none⟩ (.int k a5)).setCell
      ⟨g, 6, none⟩ (.int k a6)).setCell ⟨g, 7, none⟩ (.int k a7)) g [a0, a1, a2, a3, a4, a5, a6, a7] :=
  (((((((h.set 0 a0).set 1 a1).set 2 a2).set 3 a3).set 4 a4).set 5 a5).set 6 a6).set 7 a7
theorem Blk.far (h : Blk k T w g l) (a : Addr) (hne : g ≠ a.block) (v : Value) : Blk k T (w.setCell a v) g l := by
  unfold Blk at *
  rw [Below.heap_setCell w a v g hne]
  exact h
theorem Blk.grown {w' : World} {row : Option Nat} (h : Blk k T w g l) (hg : w.grownBy w' row) (hne : some g ≠ row) : Blk k T w' g l := by
  have hlt := h.lt
  unfold Blk at *
  rw [hg.block g hlt hne]; exact h
theorem Blk.below {w' : World} (h : Blk k T w g l) (hg : Below w.heap.size w w') : Blk k T w' g l := by
  have hlt := h.lt
  unfold Blk at *
  rw [hg.block g hlt]; exact h
theorem Blk.alloc (h : Blk k T w g l) (o : Obj) : Blk k T (w.alloc o) g l := h.grown (World.grownBy_alloc w o none) (by simp)
theorem Blk.drewN (h : Blk k T w g l) (n : Nat) : Blk k T (w.drewN n) g l := h
theorem Blk.drew (h : Blk k T w g l) : Blk k T w.drew g l := h
theorem Blk.new (w : World) (k : IntKind) (T : TypeId) (l : List Int) : Blk k T (w.alloc (.cells (ivals k l) T)) w.heap.size l := by
  unfold Blk World.alloc; simp
end
theorem grownBy_drewN {w w' : World} {row : Option Nat} (h : w.grownBy w' row) (n : Nat) : w.grownBy (w'.drewN n) row := ⟨h.os, h.tape, h.output, h.size, h.block⟩
theorem grownBy_drew1 {w w' : World} {row : Option Nat} (h : w.grownBy w' row) : w.grownBy w'.drew row := ⟨h.os, h.tape, h.output, h.size, h.block⟩
theorem grownBy_set_new {w w' : World} {row : Option Nat} (h : w.grownBy w' row) (a : Addr) (ha : w.heap.size ≤ a.block ∨ some a.block = row) (v : Value) : w.grownBy (w'.setCell a v) row :=
  ⟨h.os, h.tape, h.output, by simpa [World.setCell] using h.size, fun i hi hne => (Below.heap_setCell w' a v i (by rintro rfl; rcases ha with ha | ha; omega; exact hne ha)).trans (h.block i hi hne)⟩
/-- A quiet callee's contract ('w = w'') met behind an earlier quiet region. -/
theorem q_add_left {P : Program} {f : FuncId} {args : Array Value} {w : World} {a n : Nat} {v : Value}
    (h : Calls P f args (w.drewN (a + n)) fun e w' => e = .returned v ∧ w.drewN (a + n) = w') :
    Calls P f args (w.drewN (a + n)) fun e w'' => e = .returned v ∧ ∃ m, w'' = w.drewN (a + m) :=
  h.mono fun _ _ ⟨he, hm⟩ => ⟨he, n, hm.symm⟩
theorem q_left {P : Program} {f : FuncId} {args : Array Value} {w : World} {n : Nat} {v : Value}
    (h : Calls P f args (w.drewN n) fun e w' => e = .returned v ∧ w.drewN n = w') : Calls P f args (w.drewN n) fun e w'' => e = .returned v ∧ ∃ m, w'' = w.drewN m :=
  h.mono fun _ _ ⟨he, hm⟩ => ⟨he, n, hm.symm⟩
end Go.Proofs.Ytkjgbldooflodaa
