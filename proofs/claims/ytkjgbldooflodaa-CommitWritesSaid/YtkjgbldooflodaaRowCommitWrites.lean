/-
  The law CommitWrites: its row, out of its walk: for every input it returns true, and its arguments read as before.
-/
import Derived.Test.YtkjgbldooflodaaRows
import Derived.Test.YtkjgbldooflodaaCmY
import Derived.Test.YtkjgbldooflodaaCmZ
import Derived.WalkKit
import Derived.ProofKit
import Derived.OpenShut
import Derived.ShutString
import Derived.ChangeOld
import Derived.Below
import Derived.SizedLaws
import Derived.Lib.SmallJoins
namespace Go.Proofs.Ytkjgbldooflodaa.commitWrites
open Go.ChangeShapes Go.WideShapes Go.ChangeAt Go.RowKit
open Go.ChangeMaps (open_string shut_string)
set_option linter.unusedVariables false
theorem laidOut : laidOutB Try.prog = true := by kernel_rfl

theorem own : ownKnob Try.prog.godebug = none := by kernel_rfl
set_option maxRecDepth 100000 in
theorem lifted (os : Os) (started : os.Started) (H : Type) (enc : TypeId × Value → H) :
    ReturnsInHanded {} Try.checked os 3 .any (Rows.commitWritesSpec.pre6 enc Try.prog Try.f3 Rows.commitWritesRow.domain false) (Rows.commitWritesSpec.post enc Try.prog Try.f3 false true false false) := by
  refine returnsInHanded_of_change_sized (C := Try.checked) own started (by kernel_rfl) Try.func3
    (ChangeSpec.witness6 (enc := enc) (C := Try.checked) false ⟨#[], #[.agg #[.string ⟨#[]⟩, .slice none 0 0, .string ⟨#[]⟩]], []⟩ 8 (by kernel_rfl) (by kernel_rfl) (by kernel_rfl) (by kernel_rfl)) ?_
  intro W base args ds gs before hval0 hW hcnd hsz0 _
  have hsz : (DataW.weightsEach Try.prog (Try.f3.params.toList ++ Rows.commitWritesSpec.plain.varTypes Try.prog) (ds ++ gs)).all (· ≤ reachBytes) = true := hsz0
  have hval : ∀ (j : Nat) t v, Try.f3.params[j]? = some t → args[j]? = some v → Value.okWide Try.prog W .any base t v := hval0
  have hW' := hW
  obtain ⟨p, q, hA0, hV, rfl, hfz, hnd⟩ := hW
  have hA : DataW.TrodAll enc Try.prog W 0 (fun _ => true) true Try.f3.params.toList args.toList ds p := hA0
  rw [Try.params3] at hA hval hsz
  obtain ⟨v0, vs0, d0, ds0, p0, q0, hargs, rfl, rfl, h0, r0⟩ := trodAll_cons hA
  obtain ⟨rfl, rfl, rfl⟩ := trodAll_nil r0
  obtain rfl : args = #[v0] := by cases args; simp_all
  obtain ⟨rfl, rfl⟩ := trodVars_none hV
  have k0 := h0
  have lt0 : ∀ x ∈ p0, x.block < W.heap.size := by obtain ⟨m, hm⟩ := k0; exact DataW.trod_lt m _ _ _ hm
  obtain ⟨c0, c1, c2, y0, y1, y2, n0, hve, hde, hpe, e0, e1, e2⟩ := Joins.open_agg3 Try.underlying24 (by kernel_rfl) (by kernel_rfl) (hval 0 24 v0 rfl rfl) h0
  obtain ⟨zr0, f0, fx0, _⟩ := DataW.trod_string Try.underlying9 e0
  obtain ⟨o0, l0, c0, f1, sl0, nn0, lc0, hlen0⟩ := strs_of_slice e1
  obtain ⟨zm0, f2, fx2, _⟩ := DataW.trod_string Try.underlying9 e2
  simp only [List.cons.injEq, and_true] at f0 f1 f2
  subst f0 f1 f2
  subst hve
  subst hde
  subst fx2
  have hw0 := commit_weights hsz (j := 0) rfl rfl
  have wl0 := commit_len hw0 hlen0
  have wm0 : zm0.size ≤ 140737488351232 := by
    have z := sized_string hw0 (j := 2) (t := 9) rfl rfl
    rw [Array.length_toList] at z
    exact z
  clear hpe e0 e1 e2 hw0
  clear hA0 hval0 hsz0 hsz
  refine (commitWrites_walk zr0 l0 zm0 o0 c0 W sl0 nn0 lc0 wl0 wm0).mono fun e W' ⟨he, bel⟩ => ?_
  subst he
  exact ⟨_, rfl, _, _, _, [], _, [], hW', trodAll_mk1 (shut_bool Try.underlying4 _), (trodAll_cons_mk (Below.trod laidOut (by kernel_rfl) (of_decide_eq_true (by kernel_rfl)) k0 bel lt0) trodAll_mk0), rfl, bel.frame _, fun h => by cases h⟩
theorem over : Rows.commitWritesRow.holds Try.pinned (OpenSpec.ofChange Rows.commitWritesSpec) :=
  OpenClaim.holds_of_wide 3 Try.f3 rfl rfl rfl rfl rfl rfl rfl ⟨rfl, rfl, rfl, rfl, rfl⟩ rfl rfl rfl rfl rfl (by kernel_rfl) Try.func3 (by kernel_rfl)
    (of_decide_eq_true (by kernel_rfl)) (by unfold Func.isWrapper; first | (rw [if_pos (by decide +kernel)]; kernel_rfl) | (rw [if_neg (by decide +kernel)]; exact ⟨rfl, rfl⟩))
    (fun os started H enc _ => lifted os started H enc)
theorem proved : Rows.CommitWritesSaid := over
end Go.Proofs.Ytkjgbldooflodaa.commitWrites
namespace Go.Proofs.Ytkjgbldooflodaa
theorem commitWrites_holds : Rows.CommitWritesSaid := commitWrites.proved
end Go.Proofs.Ytkjgbldooflodaa
