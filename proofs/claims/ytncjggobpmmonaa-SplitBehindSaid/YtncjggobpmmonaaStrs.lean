/-
  Words for a row over slices of texts: how large they may be. No program.
-/
import Derived.Test.YtncjggobpmmonaaChecked
import Derived.SliceStrings
import Derived.Carry
import Derived.SizedLaws
namespace Go.Proofs.Ytncjggobpmmonaa
open Go.ChangeShapes Go.WideShapes Go.RowKit
theorem weightsAll_strs {H : Type} (P : Program) (e : TypeId) (l : List ByteArray) : ∀ s ∈ l, s.size ∈ DataW.weightsAll P e (strs (H := H) l) := by
  induction l with
  | nil => intro s h; cases h
  | cons x r ih =>
    intro s h
    have hw : DataW.weightsAll P e (strs (H := H) (x :: r)) = [x.data.toList.length] ++ DataW.weightsAll P e (strs (H := H) r) := by
      simp [strs, DataW.weightsAll, DataW.weights]
    rw [hw]
    rcases List.mem_cons.1 h with rfl | h
    · exact List.mem_append_left _ (List.mem_singleton.2 (by rw [Array.length_toList]; rfl))
    · exact List.mem_append_right _ (ih s h)
theorem sized_strs {H : Type} {P : Program} {ts : List TypeId} {ds : List (DataW H)} {j : Nat} {t e : TypeId} {l m : List ByteArray}
    (hsz : (DataW.weightsEach P ts ds).all (· ≤ reachBytes) = true) (ht : ts[j]? = some t) (hd : ds[j]? = some (.slice (strs l) (strs m))) (hu : P.underlying t = some (.slice e)) : ∀ s ∈ l, s.size ≤ 140737488351232 := fun s hs => by
  have h1 : s.size ∈ DataW.weightsEach P ts ds := by
    refine DataW.weights_mem_each ht hd _ ?_
    unfold DataW.weights
    rw [hu]
    exact List.mem_cons_of_mem _ (List.mem_append_left _ (weightsAll_strs P e l s hs))
  exact of_decide_eq_true (List.all_eq_true.1 hsz _ h1)
end Go.Proofs.Ytncjggobpmmonaa
