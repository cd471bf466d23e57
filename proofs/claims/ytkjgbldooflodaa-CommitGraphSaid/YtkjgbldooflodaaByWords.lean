/-
  Words for the walk of the reference's By.
-/
import Derived.Test.YtkjgbldooflodaaPrint
import Derived.Test.YtkjgbldooflodaaTurn
import Derived.Test.YtkjgbldooflodaaOwnZ
import Derived.Laws.OwnMore
import Derived.Deep.RegionHeld3
import Derived.Deep.OwnRows
namespace Go.Proofs.Ytkjgbldooflodaa
open Go.RowKit
set_option maxRecDepth 100000
/-- The cells behind a slice's head read as whole numbers. -/
def Rd (k : IntKind) (w : World) (ad : Addr) (l : List Int) : Prop := ∀ j, j < l.length → w.cell? (ad.add j) = some (.int k (l.getD j 0))
theorem Rd.below {k : IntKind} {w w' : World} {ad : Addr} {l : List Int} (h : Rd k w ad l) (hb : Below w.heap.size w w') : Rd k w' ad l := fun j hj => by
  have hc := h j hj
  exact (hb.cell (World.block_lt_of_cell? w (ad.add j) hc)).trans hc
theorem Rd.news {k : IntKind} {w : World} {ad : Addr} {l : List Int} (h : Rd k w ad l) : ∀ j u, (l.map (Value.int k))[j]? = some u → w.cell? (ad.add j) = some u := fun j u hu => by
  have hj : j < l.length := by have := (List.getElem?_eq_some_iff.1 hu).1; simpa using this
  rw [h j hj, ← hu]
  simp [List.getD_eq_getElem?_getD, List.getElem?_eq_getElem hj]
theorem size_snoc (s : ByteArray) : (s ++ (⟨#[128]⟩ : ByteArray)).size = s.size + 1 := by
  rw [ByteArray.size_append]; rfl
def bvals (l : List UInt8) : List Value := l.map fun (b : UInt8) => Value.int .u8 b.toNat
theorem bvals_append (l m : List UInt8) : bvals (l ++ m) = bvals l ++ bvals m := by simp [bvals]
/-- A text with its tail, of which z zeros and j bytes of the length are made. -/
def pb (l : List UInt8) (z j : Nat) : List Value := bvals (l ++ [128] ++ List.replicate z 0 ++ Sha.len8 l.length j)
theorem pb_zero (l : List UInt8) : pb l 0 0 = (l ++ [128]).map fun (b : UInt8) => Value.int .u8 b.toNat := by
  unfold pb bvals Sha.len8; simp
theorem pb_succ (l : List UInt8) (z : Nat) : pb l (z + 1) 0 = pb l z 0 ++ [.int .u8 0] := by
  unfold pb Sha.len8
  rw [List.append_nil, List.append_nil, List.replicate_succ', ← List.append_assoc, bvals_append]
  rfl
theorem pb_len (l : List UInt8) (z j : Nat) (x : Int) (hx : x = ((l.length * 8 / 2 ^ (56 - 8 * j) % 256 : Nat) : Int)) : pb l z (j + 1) = pb l z j ++ [.int .u8 x] := by
  unfold pb
  rw [show Sha.len8 l.length (j + 1) = Sha.len8 l.length j ++ [UInt8.ofNat ((l.length * 8 / 2 ^ (56 - 8 * j)) % 256)] from rfl, ← List.append_assoc, bvals_append, hx]
  simp [bvals]
theorem pb_cell (l : List UInt8) (z j i : Nat) (h : i < l.length + 1 + z + j) : (pb l z j)[i]? = some (.int .u8 (Sha.bl (l ++ [128] ++ List.replicate z 0 ++ Sha.len8 l.length j) i)) := by
  unfold pb bvals Sha.bl
  have hi : i < (l ++ [128] ++ List.replicate z 0 ++ Sha.len8 l.length j).length := by simp [Sha.len8_length]; omega
  rw [List.getElem?_map, List.getElem?_eq_getElem hi, List.getD_eq_getElem?_getD, List.getElem?_eq_getElem hi]
  rfl
/-- The cells of block g read as the bytes of l. -/
def Bts (w : World) (g nb : Nat) (l : List UInt8) : Prop := ∀ i, i < nb → w.cell? ⟨g, i, none⟩ = some (.int .u8 (Sha.bl l i))
theorem Bts.kept {w w' : World} {g nb : Nat} {l : List UInt8} (h : Bts w g nb l) {row : Option Nat} (hg : w.grownBy w' row) (hne : some g ≠ row) : Bts w' g nb l := fun i hi => by
  have hc := h i hi
  exact (World.cell?_of_block (w := w) (hg.block g (World.block_lt_of_cell? w _ hc) hne)).trans hc
theorem Rd.kept {k : IntKind} {w w' : World} {ad : Addr} {l : List Int} (h : Rd k w ad l) {row : Option Nat} (hg : w.grownBy w' row) (hne : some ad.block ≠ row) : Rd k w' ad l := fun j hj => by
  have hc := h j hj
  have hb : (ad.add j).block = ad.block := by unfold Addr.add; split <;> rfl
  exact (World.cell?_of_block (w := w) (a := ad.add j) (hg.block _ (World.block_lt_of_cell? w _ hc) (by rw [hb]; exact hne))).trans hc
theorem row_cell {w : World} {base g cap n : Nat} {e : TypeId} {k : IntKind} {l : List Int} (h : w.ownsRow base e 1 (.slice (some ⟨g, 0, none⟩) n cap) n (l.map (Value.int k))) (j : Nat) (hj : j < n) (x : Int) (hx : x = l.getD j 0) :
    w.cell? ⟨g, j, none⟩ = some (.int k x) := by
  have hl : l.length = n := by have := h.1; simpa using this
  rw [h.cellAt j (by omega), hx]
  simp [List.getD_eq_getElem?_getD, List.getElem?_eq_getElem (show j < l.length by omega)]
theorem row_set {w : World} {base g cap n : Nat} {e : TypeId} {k : IntKind} {l : List Int} (h : w.ownsRow base e 1 (.slice (some ⟨g, 0, none⟩) n cap) n (l.map (Value.int k))) (j : Nat) (x : Int) :
    (w.setCell ⟨g, j, none⟩ (.int k x)).ownsRow base e 1 (.slice (some ⟨g, 0, none⟩) n cap) n ((l.set j x).map (Value.int k)) := by
  rw [List.map_set]
  exact (h.stored j _).1
theorem grownBy_setC (w : World) (g i : Nat) (v : Value) : w.grownBy (w.setCell ⟨g, i, none⟩ v) (some g) := grownBy_set_new ⟨rfl, rfl, rfl, Nat.le_refl _, fun _ _ _ => rfl⟩ _ (.inr rfl) v
/-- The array of words of block q, t of them made. -/
def wq (P : List UInt8) (q : Nat) (ws : List Int) (t : Nat) : List Int := Sha.arr (Sha.word (P.drop (64 * q))) ws t
theorem wq_len (P : List UInt8) (q : Nat) (ws : List Int) (t : Nat) (h : t ≤ 64) (hw : ws.length = 64) : (wq P q ws t).length = 64 := by
  unfold wq; rw [Sha.arr_length _ _ _ (by omega), hw]
theorem bl_drop (l : List UInt8) (n i : Nat) : Sha.bl (l.drop n) i = Sha.bl l (n + i) := by
  simp [Sha.bl, List.getD_eq_getElem?_getD]
theorem wq_set (P : List UInt8) (q : Nat) (ws : List Int) (t : Nat) (h : t < 16) (hw : ws.length = 64) {x0 x1 x2 x3 : Int} (h0 : x0 = Sha.bl P (64 * q + 4 * t)) (h1 : x1 = Sha.bl P (64 * q + 4 * t + 1))
    (h2 : x2 = Sha.bl P (64 * q + 4 * t + 2)) (h3 : x3 = Sha.bl P (64 * q + 4 * t + 3)) :
    (wq P q ws t).set t (Go.bits .or .u32 (Go.bits .or .u32 (Go.bits .or .u32 (x0 * 16777216) (x1 * 65536)) (x2 * 256)) x3) = wq P q ws (t + 1) := by
  have h4 := Sha.arr_set (Sha.word (P.drop (64 * q))) ws t (by omega)
  rw [if_pos h] at h4
  unfold wq
  rw [← h4, Sha.word, bl_drop, bl_drop, bl_drop, bl_drop, h0, h1, h2, h3]
  rfl
theorem wq_step (P : List UInt8) (q : Nat) (ws : List Int) (t : Nat) (h0 : 16 ≤ t) (h : t < 64) (hw : ws.length = 64) {x2 x7 x15 x16 : Int} (h2 : x2 = (wq P q ws t).getD (t - 2) 0) (h7 : x7 = (wq P q ws t).getD (t - 7) 0)
    (h15 : x15 = (wq P q ws t).getD (t - 15) 0) (h16 : x16 = (wq P q ws t).getD (t - 16) 0) :
    (wq P q ws t).set t ((x16 + Sha.sg0 x15 + x7 + Sha.sg1 x2) % 4294967296) = wq P q ws (t + 1) := by
  unfold wq at *
  rw [Sha.arr_get _ _ _ _ (by omega)] at h2 h7 h15 h16
  have h1 := Sha.arr_set (Sha.word (P.drop (64 * q))) ws t (by omega)
  rw [if_neg (by omega)] at h1
  rw [← h1, h2, h7, h15, h16]
  rfl
theorem bl_range (l : List UInt8) (i : Nat) : 0 ≤ Sha.bl l i ∧ Sha.bl l i ≤ 255 := by
  unfold Sha.bl
  have := (l.getD i 0).toNat_lt
  omega
theorem cell_set_ne (w : World) (g i j : Nat) (v : Value) (h : i ≠ j) : (w.setCell ⟨g, i, none⟩ v).cell? ⟨g, j, none⟩ = w.cell? ⟨g, j, none⟩ := by
  unfold World.cell? World.setCell
  simp only [Array.getElem?_modify, if_true]
  cases hb : w.heap[g]? with
  | none => simp
  | some o => cases o <;> simp [h]
theorem wrap3_u32 (a b c d : Int) : IntKind.u32.wrap (IntKind.u32.wrap (IntKind.u32.wrap (a + b) + c) + d) = (a + b + c + d) % 4294967296 := by
  simp only [IntKind.wrap_u32']
  omega
theorem drewN_row {w : World} {base : Nat} {e : TypeId} {size n : Nat} {v : Value} {xs : List Value} (h : w.ownsRow base e size v n xs) (k : Nat) : (w.drewN k).ownsRow base e size v n xs := h
theorem drewN_below {B : Nat} {w w' : World} (h : Below B w w') (k : Nat) : Below B w (w'.drewN k) := ⟨h.os, h.tape, h.output, h.size, h.block⟩
theorem q_add {P : Program} {f : FuncId} {args : Array Value} {w : World} {a n : Nat} {v : Value}
    (h : Calls P f args (w.drewN (a + n)) fun e w' => e = .returned v ∧ ∃ m, w' = (w.drewN (a + n)).drewN m) :
    Calls P f args (w.drewN (a + n)) fun e w'' => e = .returned v ∧ ∃ m, w'' = w.drewN (a + m) :=
  h.mono fun _ _ ⟨he, m, hm⟩ => ⟨he, n + m, by rw [hm, World.drewN_drewN, Nat.add_assoc]⟩
theorem list8 {a a' d d' v0 v1 v2 v4 v5 v6 : Int} (ha : a = a') (hd : d = d') : [a, v0, v1, v2, d, v4, v5, v6] = [a', v0, v1, v2, d', v4, v5, v6] := by rw [ha, hd]
theorem own_made_u32 (W : World) (base : Nat) (e : TypeId) (m : Nat) (hb : base ≤ W.heap.size) (hm : m ≤ maxLen) :
    (W.alloc (.cells (madeCells #[.int .u32 0] m) e)).ownsRow base e 1 (.slice (some ⟨W.heap.size, 0, none⟩) m m) m ((List.replicate m (0 : Int)).map (Value.int .u32)) := by
  refine ⟨by simp, .inr ⟨W.heap.size, m, _, rfl, hb, heap_alloc_new W _, Nat.le_refl _, hm, ?_, ?_⟩⟩
  · have := congrArg List.length (toList_madeCells_one (.int .u32 0) m)
    simpa using this
  · rw [toList_madeCells_one]; simp
def lenOf : Value → Nat
  | .slice _ n _ => n
  | _ => 0
/-- The number of a piece's first region. -/
def firstReg : Code → Nat
  | .region i _ _ => i
  | .seq a _ => firstReg a
  | .cond _ a _ => firstReg a
  | .block _ b => firstReg b
  | .loop b => firstReg b
  | _ => 1000
/-- The loop whose first region has number r. -/
def loopAt (r : Nat) : Code → Code
  | .loop b => bif Nat.beq (firstReg b) r then .loop b else loopAt r b
  | .seq a b => match loopAt r a with | .skip => loopAt r b | c => c
  | .cond _ a b => match loopAt r a with | .skip => loopAt r b | c => c
  | .block _ b => loopAt r b
  | _ => .skip
end Go.Proofs.Ytkjgbldooflodaa
