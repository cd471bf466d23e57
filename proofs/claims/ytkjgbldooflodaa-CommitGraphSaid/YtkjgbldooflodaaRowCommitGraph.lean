/-
  The law CommitGraph: its row, out of its walk: for every input it returns true, and its arguments read as before.
-/
import Derived.Test.YtkjgbldooflodaaRows
import Derived.Test.YtkjgbldooflodaaCgR
import Derived.Test.YtkjgbldooflodaaCn9
import Derived.WalkKit
import Derived.ProofKit
import Derived.OpenShut
import Derived.ShutString
import Derived.ChangeOld
import Derived.Below
import Derived.SizedLaws
import Derived.Lib.SmallJoins
namespace Go.Proofs.Ytkjgbldooflodaa.commitGraph
open Go.ChangeShapes Go.WideShapes Go.ChangeAt Go.RowKit
open Go.ChangeMaps (open_string shut_string)
set_option linter.unusedVariables false
theorem laidOut : laidOutB Try.prog = true := by kernel_rfl

theorem own : ownKnob Try.prog.godebug = none := by kernel_rfl
set_option maxRecDepth 100000 in
theorem lifted (os : Os) (started : os.Started) (H : Type) (enc : TypeId × Value → H) :
    ReturnsInHanded {} Try.checked os 7 .any (Rows.commitGraphSpec.pre6 enc Try.prog Try.f7 Rows.commitGraphRow.domain false) (Rows.commitGraphSpec.post enc Try.prog Try.f7 false true false false) := by
  refine returnsInHanded_of_change_sized (C := Try.checked) own started (by kernel_rfl) Try.func7
    (ChangeSpec.witness6 (enc := enc) (C := Try.checked) false ⟨#[], #[.slice none 0 0, .agg #[.int .i64 0, .int .i64 0]], []⟩ 8 (by kernel_rfl) (by kernel_rfl) (by kernel_rfl) (by kernel_rfl)) ?_
  intro W base args ds gs before hval0 hW hcnd hsz0 _
  have hsz : (DataW.weightsEach Try.prog (Try.f7.params.toList ++ Rows.commitGraphSpec.plain.varTypes Try.prog) (ds ++ gs)).all (· ≤ reachBytes) = true := hsz0
  have hval : ∀ (j : Nat) t v, Try.f7.params[j]? = some t → args[j]? = some v → Value.okWide Try.prog W .any base t v := hval0
  have hW' := hW
  obtain ⟨p, q, hA0, hV, rfl, hfz, hnd⟩ := hW
  have hA : DataW.TrodAll enc Try.prog W 0 (fun _ => true) true Try.f7.params.toList args.toList ds p := hA0
  rw [Try.params7] at hA hval hsz
  obtain ⟨v0, vs0, d0, ds0, p0, q0, hargs, rfl, rfl, h0, r0⟩ := trodAll_cons hA
  obtain ⟨v1, vs1, d1, ds1, p1, q1, rfl, rfl, rfl, h1, r1⟩ := trodAll_cons r0
  obtain ⟨rfl, rfl, rfl⟩ := trodAll_nil r1
  obtain rfl : args = #[v0, v1] := by cases args; simp_all
  obtain ⟨rfl, rfl⟩ := trodVars_none hV
  have k0 := h0
  have lt0 : ∀ x ∈ p0, x.block < W.heap.size := by obtain ⟨m, hm⟩ := k0; exact DataW.trod_lt m _ _ _ hm
  obtain ⟨a0, len0, cap0, rfl⟩ := okWide_slice Try.underlying51 (hval 0 51 v0 rfl rfl)
  obtain ⟨fu0, hf0⟩ := h0
  obtain ⟨o0, l0, c0, hcs0, sl0, il0, ll0⟩ := lists_of_slice (by simpa [Value.cells] using hf0)
  simp only [List.cons.injEq, and_true, Value.slice.injEq] at hcs0
  obtain ⟨rfl, rfl, rfl⟩ := hcs0
  have k1 := h1
  have lt1 : ∀ x ∈ p1, x.block < W.heap.size := by obtain ⟨m, hm⟩ := k1; exact DataW.trod_lt m _ _ _ hm
  obtain ⟨n0, n1, rfl⟩ : ∃ n0 n1 : Int, v1 = .agg #[.int .i64 n0, .int .i64 n1] := by
    have h := (hval 1 57 v1 rfl rfl)
    simp only [Value.okWide, Try.underlying57] at h
    obtain ⟨cs, rfl, hcs, _⟩ := h
    obtain ⟨c0, c1, rfl⟩ := Joins.array2 (hcs.trans (show Try.prog.cellsOf 57 = 2 by kernel_rfl))
    obtain ⟨fuel, hf⟩ := h1
    obtain ⟨n0, n1, rfl, rfl⟩ := two_of_array (by simpa [Value.cells] using hf)
    exact ⟨n0, n1, rfl⟩
  clear hA0 hval0 hsz0 hsz
  refine (commitGraph_walk l0 a0 cap0 n0 n1 W sl0 il0 ll0).mono fun e W' ⟨he, bel⟩ => ?_
  subst he
  exact ⟨_, rfl, _, _, _, [], _, [], hW', trodAll_mk1 (shut_bool Try.underlying4 _), (trodAll_cons_mk (Below.trod laidOut (by kernel_rfl) (of_decide_eq_true (by kernel_rfl)) k0 bel lt0) (trodAll_cons_mk (Below.trod laidOut (by kernel_rfl) (of_decide_eq_true (by kernel_rfl)) k1 bel lt1) trodAll_mk0)), rfl, bel.frame _, fun h => by cases h⟩
theorem over : Rows.commitGraphRow.holds Try.pinned (OpenSpec.ofChange Rows.commitGraphSpec) :=
  OpenClaim.holds_of_wide 7 Try.f7 rfl rfl rfl rfl rfl rfl rfl ⟨rfl, rfl, rfl, rfl, rfl⟩ rfl rfl rfl rfl rfl (by kernel_rfl) Try.func7 (by kernel_rfl)
    (of_decide_eq_true (by kernel_rfl)) (by unfold Func.isWrapper; first | (rw [if_pos (by decide +kernel)]; kernel_rfl) | (rw [if_neg (by decide +kernel)]; exact ⟨rfl, rfl⟩))
    (fun os started H enc _ => lifted os started H enc)
theorem proved : Rows.CommitGraphSaid := over
end Go.Proofs.Ytkjgbldooflodaa.commitGraph
namespace Go.Proofs.Ytkjgbldooflodaa
theorem commitGraph_holds : Rows.CommitGraphSaid := commitGraph.proved
end Go.Proofs.Ytkjgbldooflodaa
