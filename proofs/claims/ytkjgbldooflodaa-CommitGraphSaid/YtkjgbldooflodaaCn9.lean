/-
  A list of lists of numbers, and two numbers, among the arguments.
-/
import Derived.Test.YtkjgbldooflodaaCn6
import Derived.WalkKit
import Derived.ProofKit
import Derived.OpenShut
import Derived.ChangeOld
import Derived.SizedLaws
import Derived.Lib.SmallJoins
import Derived.Deep.Slices
namespace Go.Proofs.Ytkjgbldooflodaa
open Go.ChangeShapes Go.WideShapes Go.ChangeAt Go.RowKit Go.Deep
set_option maxRecDepth 100000
set_option linter.unusedVariables false
theorem ints_of_slice {H : Type} {enc : TypeId × Value → H} {W : World} {fuel : Nat} {cs : List Value} {x : DataW H × List MemPlace}
    (h : DataW.trod enc Try.prog W 0 (fun _ => true) true fuel 92 cs = some x) :
    ∃ (o : Option Addr) (l : List Int) (c : Nat), cs = [.slice o l.length c] ∧ Is W o l ∧ l.length ≤ maxLen := by
  rcases open_ints Try.underlying92 Try.underlying3 (by kernel_rfl) h with ⟨hcs, hx⟩ | ⟨a, len, cap, ss, hcs, hb, hl, hm, hz, hx, hcell, hsz⟩
  · exact ⟨none, [], 0, hcs, ⟨fun h => absurd rfl h, fun a ha => by cases ha⟩, Nat.zero_le _⟩
  · have hz' : ss.length = cap := by simpa using hz
    have hlen : (ss.take len).length = len := by rw [List.length_take]; omega
    have hat : ∀ (i : Nat) (x : Int), (ss.take len)[i]? = some x → W.cell? (a.add i) = some (.int .i64 x) := by
      intro i x hx
      have hi : i < len := by have := (List.getElem?_eq_some_iff.1 hx).1; omega
      rw [List.getElem?_take_of_lt hi] at hx
      have := hcell i (by omega)
      rw [List.getD_eq_getElem?_getD, hx] at this
      exact this
    refine ⟨some a, ss.take len, cap, by rw [hlen]; exact hcs, ⟨fun _ => ⟨a, rfl⟩, fun b hb => ?_⟩, by omega⟩
    cases hb
    refine ⟨fun hn => ?_, fun i x hx => hat i x hx⟩
    obtain ⟨x, t, ht⟩ := List.exists_cons_of_ne_nil hn
    have h0 := hat 0 x (by rw [ht]; rfl)
    have := World.block_lt_of_cell? W _ h0
    rwa [addr_add_block] at this
theorem lists_of_slice {H : Type} {enc : TypeId × Value → H} {W : World} {fuel : Nat} {cs : List Value} {x : DataW H × List MemPlace}
    (h : DataW.trod enc Try.prog W 0 (fun _ => true) true fuel 51 cs = some x) :
    ∃ (o : Option Addr) (L : List (List Int)) (c : Nat), cs = [.slice o L.length c] ∧ LL W o L ∧ (∀ l ∈ L, l.length ≤ maxLen) ∧ L.length ≤ maxLen := by
  rcases open_slice1 Try.underlying51 (by kernel_rfl) h with ⟨rfl, rfl⟩ | ⟨a, len, cap, m, n, V, D, Pl, rfl, hb, hle, hm, hmm, rfl, hx⟩
  · exact ⟨none, [], 0, rfl, ⟨fun h => absurd rfl h, fun a ha => by cases ha⟩, (fun l hl => by cases hl), Nat.zero_le _⟩
  · have hlm : len ≤ m := by rw [hmm]; simp; exact hle
    have each : ∀ i, i < len → ∃ l : List Int, (∃ oi ci, W.cell? (a.add i) = some (.slice oi l.length ci) ∧ Is W oi l) ∧ l.length ≤ maxLen := by
      intro i hi
      obtain ⟨hc, ht⟩ := hx i (by omega)
      obtain ⟨oi, l, ci, h1, h2, h3⟩ := ints_of_slice ht
      injection h1 with h1 _
      rw [h1] at hc
      exact ⟨l, ⟨oi, ci, hc, h2⟩, h3⟩
    have hel : ∀ (i : Nat) (x : List Int), ((List.range len).map fun i => if h : i < len then Classical.choose (each i h) else [])[i]? = some x → ∃ h : i < len, x = Classical.choose (each i h) := by
      intro i x hx
      rw [List.getElem?_map, Option.map_eq_some_iff] at hx
      obtain ⟨j, hj, rfl⟩ := hx
      obtain ⟨hj1, hj2⟩ := List.getElem?_eq_some_iff.1 hj
      rw [List.getElem_range] at hj2
      subst hj2
      have hi : i < len := by simpa using hj1
      exact ⟨hi, by rw [dif_pos hi]⟩
    refine ⟨some a, (List.range len).map fun i => if h : i < len then Classical.choose (each i h) else [], cap, by simp, ⟨fun _ => ⟨a, rfl⟩, fun b hb => ?_⟩, fun l hl => ?_, by simp; omega⟩
    · cases hb
      refine ⟨fun hn => ?_, fun i l hl => ?_⟩
      · have h0 : 0 < len := by
          rcases Nat.eq_zero_or_pos len with h | h
          · subst h; exact absurd rfl hn
          · exact h
        obtain ⟨⟨oi, ci, h1, _⟩, _⟩ := Classical.choose_spec (each 0 h0)
        have := World.block_lt_of_cell? W _ h1
        rwa [addr_add_block] at this
      · obtain ⟨hi, rfl⟩ := hel i l hl
        exact (Classical.choose_spec (each i hi)).1
    · obtain ⟨i, hi⟩ := List.getElem?_of_mem hl
      obtain ⟨hi', rfl⟩ := hel i l hi
      exact (Classical.choose_spec (each i hi')).2
theorem two_of_array {H : Type} {enc : TypeId × Value → H} {W : World} {fuel : Nat} {c0 c1 : Value} {x : DataW H × List MemPlace}
    (h : DataW.trod enc Try.prog W 0 (fun _ => true) true fuel 57 [c0, c1] = some x) : ∃ n0 n1 : Int, c0 = .int .i64 n0 ∧ c1 = .int .i64 n1 := by
  obtain ⟨xs, m, _, _, _, hl, hx⟩ := DataW.trod_array Try.underlying57 h
  have e0 := hx 0 (by decide)
  have e1 := hx 1 (by decide)
  rw [show Try.prog.cellsOf 3 = 1 by kernel_rfl] at e0 e1
  obtain ⟨y0, hy0⟩ : ∃ y, xs[0]? = some y := ⟨_, List.getElem?_eq_getElem (by omega)⟩
  obtain ⟨y1, hy1⟩ : ∃ y, xs[1]? = some y := ⟨_, List.getElem?_eq_getElem (by omega)⟩
  rw [hy0] at e0
  rw [hy1] at e1
  obtain ⟨z0, f0, _, _⟩ := DataW.trod_int Try.underlying3 (show DataW.trod enc Try.prog W 0 (fun _ => true) true m 3 [c0] = some y0 from e0)
  obtain ⟨z1, f1, _, _⟩ := DataW.trod_int Try.underlying3 (show DataW.trod enc Try.prog W 0 (fun _ => true) true m 3 [c1] = some y1 from e1)
  simp only [List.cons.injEq, and_true] at f0 f1
  exact ⟨z0, z1, f0, f1⟩
end Go.Proofs.Ytkjgbldooflodaa
