/-
  An argument that is a slice of values, opened.
-/
import Derived.Test.YtgfjfpghjjknlaaDoorClB
import Derived.Lib.SmallJoins
import Derived.Deep.Slices
import Derived.Deep.Strs
import Derived.ProofKit
namespace Go.Proofs.YtgfjfpghjjknlaaDoor
open Go.RowKit Cl Go.ChangeShapes Go.WideShapes Go.Deep
set_option maxRecDepth 100000
set_option linter.unusedVariables false
section
variable {H : Type} {enc : TypeId × Value → H} {P : Program} {w : World} {base : Nat} {spare : Nat → Bool} {held : Bool}
theorem trod3 {t : TypeId} {f0 f1 f2 : Field} {fuel : Nat} {cs : List Value} {x : DataW H × List MemPlace} (hs : P.underlying t = some (.struct #[f0, f1, f2])) (hone : oneCellFields P #[f0, f1, f2] = true) (hC : P.cellsOf t = 3)
    (h : DataW.trod enc P w base spare held fuel t cs = some x) : ∃ (c0 c1 c2 : Value) (y0 y1 y2 : DataW H × List MemPlace) (n : Nat), cs = [c0, c1, c2] ∧
      DataW.trod enc P w base spare held n f0.type [c0] = some y0 ∧ DataW.trod enc P w base spare held n f1.type [c1] = some y1 ∧ DataW.trod enc P w base spare held n f2.type [c2] = some y2 := by
  obtain ⟨y0, y1, y2, n, _, hl, h0, h1, h2⟩ := trod_struct3 hs h
  obtain ⟨o0, k0⟩ := hone_of hone 0 f0 rfl
  obtain ⟨o1, k1⟩ := hone_of hone 1 f1 rfl
  obtain ⟨o2, k2⟩ := hone_of hone 2 f2 rfl
  rw [hC] at hl
  match cs, hl with
  | [c0, c1, c2], _ => exact ⟨c0, c1, c2, y0, y1, y2, n, rfl, by simpa [o0, k0] using h0, by simpa [o1, k1] using h1, by simpa [o2, k2] using h2⟩
end
theorem vals_of_slice {H : Type} {enc : TypeId × Value → H} {W : World} {fuel : Nat} {cs : List Value} {x : DataW H × List MemPlace}
    (h : DataW.trod enc Tryd.prog W 0 (fun _ => true) true fuel 27 cs = some x) :
    ∃ (o : Option Addr) (l : List V) (c : Nat), cs = [.slice o l.length c] ∧ Sl W o l ∧ (o = none → c = 0) ∧ (∀ v ∈ l, In64 v.n) ∧ (l = [] ∨ ∃ es sp, x.1 = .slice es sp ∧ es.length = l.length) := by
  rcases open_slice Tryd.underlying27 h with ⟨rfl, rfl⟩ | ⟨a, len, cap, m, n, D, Pl, rfl, hb, hle, hm, hmm, rfl, hx⟩
  · exact ⟨none, [], 0, rfl, ⟨fun h => absurd rfl h, fun a ha => by cases ha⟩, fun _ => rfl, fun v hv => absurd hv (by simp), Or.inl rfl⟩
  · have hlm : len ≤ m := by rw [hmm]; simp; exact hle
    have c3 : Tryd.prog.cellsOf 23 = 3 := by kernel_rfl
    rw [c3] at hx
    have each : ∀ i, i < len → ∃ v : V, In64 v.n ∧ a.block < W.heap.size ∧ W.cell? (a.add (i * 3)) = some (.int .i64 v.k) ∧ W.cell? ⟨(a.add (i * 3)).block, (a.add (i * 3)).off + 1, none⟩ = some (.int .i64 v.n) ∧ W.cell? ⟨(a.add (i * 3)).block, (a.add (i * 3)).off + 2, none⟩ = some (.string v.s) := by
      intro i hi
      obtain ⟨cs', hc, ht⟩ := hx i (by omega)
      obtain ⟨_, hcl, hat⟩ := World.cells?_some hc
      obtain ⟨q0, q1, q2, y0, y1, y2, n', rfl, e0, e1, e2⟩ := trod3 Tryd.underlying23 (by kernel_rfl) (by kernel_rfl) ht
      obtain ⟨zk, f0, _, g0⟩ := DataW.trod_int Tryd.underlying3 e0
      obtain ⟨zn, f1, _, g1⟩ := DataW.trod_int Tryd.underlying2 e1
      obtain ⟨zs, f2, _, g2⟩ := DataW.trod_string Tryd.underlying9 e2
      simp only [List.cons.injEq, and_true] at f0 f1 f2
      subst f0 f1 f2
      have a0 := hat 0 (by decide)
      have a1 := hat 1 (by decide)
      have a2 := hat 2 (by decide)
      have hlt : (a.add (i * 3)).block < W.heap.size := World.block_lt_of_cell? W _ (a0.trans rfl)
      rw [addr_add_block] at hlt
      exact ⟨⟨zk, zn, zs⟩, bounds_i64 g1, hlt, a0, a1, a2⟩
    refine ⟨some a, (List.range len).map fun i => if h : i < len then Classical.choose (each i h) else ⟨0, 0, ⟨#[]⟩⟩, cap, ?_, ⟨fun _ => ⟨a, rfl⟩, fun b hb => ?_⟩, (fun h => by cases h), fun v hv => ?_, Or.inr ⟨_, _, rfl, by simp⟩⟩
    · simp
    · cases hb
      have hel : ∀ (i : Nat) (x : V), ((List.range len).map fun i => if h : i < len then Classical.choose (each i h) else ⟨0, 0, ⟨#[]⟩⟩)[i]? = some x → ∃ h : i < len, x = Classical.choose (each i h) := by
        intro i x hx
        rw [List.getElem?_map, Option.map_eq_some_iff] at hx
        obtain ⟨j, hj, rfl⟩ := hx
        obtain ⟨hj1, hj2⟩ := List.getElem?_eq_some_iff.1 hj
        rw [List.getElem_range] at hj2
        subst hj2
        have hi : i < len := by simpa using hj1
        exact ⟨hi, by rw [dif_pos hi]⟩
      refine ⟨fun hn => ?_, fun i x hx => ?_⟩
      · have h0 : 0 < len := by
          rcases Nat.eq_zero_or_pos len with h | h
          · subst h; exact absurd rfl hn
          · exact h
        exact (Classical.choose_spec (each 0 h0)).2.1
      · obtain ⟨hi, rfl⟩ := hel i x hx
        exact (Classical.choose_spec (each i hi)).2.2
    · obtain ⟨i, hi, rfl⟩ := List.mem_map.1 hv
      have hi2 : i < len := by simpa using hi
      rw [dif_pos hi2]
      exact (Classical.choose_spec (each i hi2)).1
end Go.Proofs.YtgfjfpghjjknlaaDoor
