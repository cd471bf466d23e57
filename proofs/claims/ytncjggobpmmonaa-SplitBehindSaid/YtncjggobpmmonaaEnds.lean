/-
  The walk of split.Ends: does the fingerprint's first byte lie below 64? And words for slices as they are read.
-/
import Derived.Test.YtncjggobpmmonaaPrint
import Derived.Laws.OwnMore
namespace Go.Proofs.Ytncjggobpmmonaa
open Go.RowKit
set_option maxRecDepth 100000
theorem sha_size (s : ByteArray) : (Sha.sha s).size = 32 := by
  unfold Sha.sha
  rw [strOfNums_size]
  unfold Sha.digest
  rw [Sha.out4_length]
/-- Does an item end a part? -/
def endsS (s : ByteArray) : Bool := decide (Sha.byteAt (Sha.sha s) 0 < 64)
theorem ends_any (s : ByteArray) (w : World) (hs : s.size ≤ 140737488351232) :
    Calls Try.prog 8 #[.string s] w fun e w' => e = .returned (.bool (endsS s)) ∧ Below w.heap.size w w' := by
  have hz := sha_size s
  have i0 := fun w => run_index_byteAt (P := Try.prog) (t := 9) rfl (Sha.sha s) 0 0 (by omega) (by omega) w
  go_enter Try.func8, Try.ntmps8
  go_wp2_with (go_at_call 13; refine (print_any s w hs).mono ?_; rintro e w1 ⟨rfl, hb⟩)
  go_ret
  exact ⟨rfl, hb⟩
/-- A slice (its address, if any) reads as the values xs. -/
def Vs (w : World) (o : Option Addr) (xs : List Value) : Prop := (xs ≠ [] → ∃ a, o = some a) ∧ ∀ a, o = some a → ∀ i u, xs[i]? = some u → w.cell? (a.add i) = some u
theorem Vs.below {w w' : World} {o : Option Addr} {xs : List Value} (h : Vs w o xs) {n : Nat} (hn : w.heap.size ≤ n) (hb : Below n w w') : Vs w' o xs :=
  ⟨h.1, fun a ha i u hu => by
    have hc := h.2 a ha i u hu
    exact (hb.cell (Nat.lt_of_lt_of_le (World.block_lt_of_cell? w (a.add i) hc) hn)).trans hc⟩
theorem Vs.grown {w w' : World} {o : Option Addr} {xs : List Value} (h : Vs w o xs) {row : Option Nat} (hg : w.grownBy w' row) (hne : ∀ a, o = some a → some a.block ≠ row) : Vs w' o xs :=
  ⟨h.1, fun a ha i u hu => by
    have hc := h.2 a ha i u hu
    refine hg.cell hc ?_
    have := hne a ha
    unfold Addr.add; split <;> exact this⟩
theorem Vs.get {w : World} {a : Addr} {ls : List ByteArray} (h : Vs w (some a) (ls.map Value.string)) (i : Nat) (hi : i < ls.length) : w.cell? (a.add i) = some (.string (ls.getD i ByteArray.empty)) :=
  h.2 a rfl i _ (by simp [List.getD_eq_getElem?_getD, List.getElem?_eq_getElem hi])
theorem Vs.geti {w : World} {a : Addr} {ls : List Nat} (h : Vs w (some a) (ls.map fun (n : Nat) => Value.int .i64 n)) (i : Nat) (hi : i < ls.length) : w.cell? (a.add i) = some (.int .i64 (ls.getD i 0)) :=
  h.2 a rfl i _ (by simp [List.getD_eq_getElem?_getD, List.getElem?_eq_getElem hi])
theorem add_add (a : Addr) (i j : Nat) : (a.add i).add j = a.add (i + j) := by
  unfold Addr.add
  by_cases hi : i = 0 <;> by_cases hj : j = 0 <;> simp [hi, hj, Nat.add_assoc]
theorem Vs.nil {w : World} {o : Option Addr} : Vs w o [] := ⟨fun h => absurd rfl h, fun _ _ i u hu => by simp at hu⟩
theorem Vs.drop {w : World} {a : Addr} {xs : List Value} (h : Vs w (some a) xs) (k : Nat) : Vs w (some (a.add k)) (xs.drop k) :=
  ⟨fun _ => ⟨_, rfl⟩, fun b hb i u hu => by
    injection hb with hb
    subst hb
    rw [add_add]
    exact h.2 a rfl (k + i) u (by rw [← hu, List.getElem?_drop])⟩
theorem Vs.take {w : World} {o : Option Addr} {xs : List Value} (h : Vs w o xs) (k : Nat) : Vs w o (xs.take k) :=
  ⟨fun hn => h.1 (by rintro rfl; simp at hn), fun b hb i u hu => h.2 b hb i u (by
    rw [List.getElem?_take] at hu
    split at hu
    · exact hu
    · cases hu)⟩
/-- A row of the call's own reads as its values. -/
theorem Vs.own {w : World} {base n : Nat} {e : TypeId} {v : Value} {xs : List Value} (h : w.ownsRow base e 1 v n xs) : ∃ o c, v = .slice o n c ∧ n ≤ c ∧ Vs w o xs ∧ (∀ a, o = some a → a.spot = none ∧ base ≤ a.block) := by
  have hl := h.1
  rcases h.2 with ⟨rfl, rfl⟩ | ⟨g, cap, cur, rfl, hb, _, hc, _⟩
  · obtain rfl : xs = [] := List.eq_nil_of_length_eq_zero (by simpa using hl)
    exact ⟨none, 0, rfl, Nat.le_refl _, Vs.nil, fun a ha => by cases ha⟩
  · exact ⟨_, _, rfl, hc, ⟨fun _ => ⟨_, rfl⟩, fun a ha => by injection ha with ha; subst ha; exact h.cells rfl⟩, fun a ha => by injection ha with ha; subst ha; exact ⟨rfl, hb⟩⟩
/-- The parts of few: no more than 200 texts of up to 5000 bytes. -/
theorem few_any (o : Option Addr) (c : Nat) (ls : List ByteArray) (w : World) (hv : Vs w o (ls.map Value.string)) (hz : ∀ i, i < ls.length → (ls.getD i ByteArray.empty).size ≤ 140737488351232) (hn : ls.length ≤ maxLen) :
    Calls Try.prog 7 #[.slice o ls.length c] w fun e w' => (∃ b, e = .returned (.bool b) ∧ (b = true → ls.length ≤ 200 ∧ ∀ i, i < ls.length → (ls.getD i ByteArray.empty).size ≤ 5000)) ∧ Below w.heap.size w w' := by
  go_enter Try.func7, Try.ntmps7
  by_cases h200 : ls.length ≤ 200
  · go_wp2
    go_loopw [3, 11] (fun v x wr => ∃ (n i : Nat), i ≤ ls.length ∧ v = .int .i64 n ∧ x = .int .i64 i ∧ n ≤ 5000 ∧ (∀ j, j < i → (ls.getD j ByteArray.empty).size ≤ 5000) ∧ Below w.heap.size w wr)
      (fun _ x _ => ls.length - (intOf x).toNat)
    case atStart => exact ⟨0, 0, by omega, rfl, rfl, by omega, by omega, Below.refl _ _⟩
    case round =>
      obtain ⟨n, i, hi, rfl, rfl, hn5, hall, hB⟩ := hrel
      by_cases hil : i < ls.length
      · obtain ⟨a, rfl⟩ := hv.1 (by intro h; simp at h; subst h; simp at hil)
        have hc := (hv.below (Nat.le_refl _) hB).get i hil
        have hzi := hz i hil
        generalize hs : ls.getD i ByteArray.empty = s at hc hzi
        by_cases h5 : n + s.size ≤ 5000
        · go_wp2
          go_roundw
          case rel =>
            refine ⟨n + s.size, i + 1, hil, by go_num, by go_num, h5, fun j hj => ?_, hB⟩
            rcases Nat.lt_succ_iff_lt_or_eq.1 hj with h | rfl
            · exact hall j h
            · rw [hs]; omega
          case measure => simp [intOf]; omega
        · go_wp2
          go_ret
          exact ⟨⟨false, rfl, by simp⟩, hB⟩
      · go_wp2
        go_ret
        exact ⟨⟨true, rfl, fun _ => ⟨h200, fun j hj => hall j (by omega)⟩⟩, hB⟩
  · go_wp2
    go_ret
    exact ⟨⟨false, rfl, by simp⟩, Below.refl _ _⟩
end Go.Proofs.Ytncjggobpmmonaa
