/-
  A list of texts among the arguments: it lies in memory as Ss says, and its length is that of its datum.
-/
import Derived.Test.YtkjgbldooflodaaCm1
import Derived.WalkKit
import Derived.ProofKit
import Derived.OpenShut
import Derived.ChangeOld
import Derived.SliceStrings
import Derived.SizedLaws
import Derived.Lib.SmallJoins
namespace Go.Proofs.Ytkjgbldooflodaa
open Go.ChangeShapes Go.WideShapes Go.ChangeAt Go.RowKit
set_option linter.unusedVariables false
theorem strs_of_slice {H : Type} {enc : TypeId × Value → H} {W : World} {fuel : Nat} {cs : List Value} {x : DataW H × List MemPlace}
    (h : DataW.trod enc Try.prog W 0 (fun _ => true) true fuel 22 cs = some x) :
    ∃ (o : Option Addr) (l : List ByteArray) (c : Nat), cs = [.slice o l.length c] ∧ Ss W o l ∧ (o = none → c = 0) ∧ l.length ≤ c ∧ (l = [] ∨ ∃ es sp, x.1 = .slice es sp ∧ es.length = l.length) := by
  rcases open_strings Try.underlying22 Try.underlying9 (by kernel_rfl) h with ⟨hcs, hx⟩ | ⟨a, len, cap, ss, hcs, hb, hl, hm, hz, hx, hcell, hsz⟩
  · exact ⟨none, [], 0, hcs, Ss.nil, fun _ => rfl, Nat.le_refl _, Or.inl rfl⟩
  · have hz' : ss.length = cap := by simpa using hz
    have hlen : (ss.take len).length = len := by rw [List.length_take]; omega
    have hat : ∀ (i : Nat) (x : ByteArray), (ss.take len)[i]? = some x → W.cell? (a.add i) = some (.string x) := by
      intro i x hx
      have hi : i < len := by have := (List.getElem?_eq_some_iff.1 hx).1; omega
      rw [List.getElem?_take_of_lt hi] at hx
      have := hcell i (by omega)
      rw [List.getD_eq_getElem?_getD, hx] at this
      exact this
    refine ⟨some a, ss.take len, cap, by rw [hlen]; exact hcs, ⟨fun _ => ⟨a, rfl⟩, fun b hb => ?_⟩, (fun h => by cases h), by omega, Or.inr ⟨_, _, by rw [hx], by simp [strs]⟩⟩
    cases hb
    refine ⟨fun hn => ?_, fun i x hx => hat i x hx⟩
    obtain ⟨x, t, ht⟩ := List.exists_cons_of_ne_nil hn
    have h0 := hat 0 x (by rw [ht]; rfl)
    have := World.block_lt_of_cell? W _ h0
    rwa [addr_add_block] at this
theorem commit_weights {H : Type} {ds : List (DataW H)} {ts : List TypeId} {j : Nat} {a b c : DataW H} (hsz : (DataW.weightsEach Try.prog ts ds).all (· ≤ reachBytes) = true) (ht : ts[j]? = some 24) (hd : ds[j]? = some (.agg [a, b, c])) :
    (DataW.weightsEach Try.prog [9, 22, 9] [a, b, c]).all (· ≤ reachBytes) = true := by
  refine List.all_eq_true.2 fun n hn => List.all_eq_true.1 hsz n (DataW.weights_mem_each ht hd n ?_)
  simp only [DataW.weights, Try.underlying24]
  exact hn
theorem commit_len {H : Type} {a b c : DataW H} {l : List ByteArray} (hw : (DataW.weightsEach Try.prog [9, 22, 9] [a, b, c]).all (· ≤ reachBytes) = true) (hl : l = [] ∨ ∃ es sp, b = .slice es sp ∧ es.length = l.length) : l.length ≤ 140737488351232 := by
  rcases hl with rfl | ⟨es, sp, rfl, he⟩
  · simp
  · have z := sized_slice hw (j := 1) (t := 22) rfl rfl Try.underlying22
    rw [he, show Try.prog.bytesOf 9 = 16 by kernel_rfl] at z
    have hr : reachBytes < 2 ^ 47 := reachBytes_lt
    omega
end Go.Proofs.Ytkjgbldooflodaa
