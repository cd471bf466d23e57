/-
  The law SumsUnlike: its row, out of its walk: for every input it returns true, and its arguments read as before.
-/
import Derived.Test.YtkggemkaddkdfaaRows
import Derived.Test.YtkggemkaddkdfaaUnlike
import Derived.WalkKit
import Derived.ProofKit
import Derived.OpenShut
import Derived.ShutString
import Derived.ChangeOld
import Derived.Below
import Derived.SizedLaws
import Derived.Lib.SmallJoins
import Derived.Laws.IdiomArrays
namespace Go.Proofs.Ytkggemkaddkdfaa.sumsUnlike
open Go.ChangeShapes Go.WideShapes Go.ChangeAt Go.RowKit
open Go.ChangeMaps (open_string shut_string)
set_option linter.unusedVariables false
theorem laidOut : laidOutB Try.prog = true := by kernel_rfl
theorem byte_of {n : Int} (h : (Lit.int .u8 n).wf = true) : ∃ b : UInt8, n = (b.toNat : Int) := by
  have hb := bounds_u8 h
  exact ⟨UInt8.ofNat n.toNat, by rw [UInt8.toNat_ofNat']; omega⟩
theorem own : ownKnob Try.prog.godebug = none := by kernel_rfl
set_option maxRecDepth 100000 in
theorem lifted (os : Os) (started : os.Started) (H : Type) (enc : TypeId × Value → H) :
    ReturnsInHanded {} Try.checked os 6 .any (Rows.sumsUnlikeSpec.pre6 enc Try.prog Try.f6 Rows.sumsUnlikeRow.domain false) (Rows.sumsUnlikeSpec.post enc Try.prog Try.f6 false true false false) := by
  refine returnsInHanded_of_change_sized (C := Try.checked) own started (by kernel_rfl) Try.func6
    (ChangeSpec.witness6 (enc := enc) (C := Try.checked) false ⟨#[], #[.string ByteArray.empty, .int .i64 0, .agg #[.int .u8 0, .int .u8 0, .int .u8 0, .int .u8 0]], []⟩ 8 (by kernel_rfl) (by kernel_rfl) (by kernel_rfl) (by kernel_rfl)) ?_
  intro W base args ds gs before hval0 hW hcnd hsz0 _
  have hsz : (DataW.weightsEach Try.prog (Try.f6.params.toList ++ Rows.sumsUnlikeSpec.plain.varTypes Try.prog) (ds ++ gs)).all (· ≤ reachBytes) = true := hsz0
  have hval : ∀ (j : Nat) t v, Try.f6.params[j]? = some t → args[j]? = some v → Value.okWide Try.prog W .any base t v := hval0
  have hW' := hW
  obtain ⟨p, q, hA0, hV, rfl, hfz, hnd⟩ := hW
  have hA : DataW.TrodAll enc Try.prog W 0 (fun _ => true) true Try.f6.params.toList args.toList ds p := hA0
  rw [Try.params6] at hA hval hsz
  obtain ⟨v0, vs0, d0, ds0, p0, q0, hargs, rfl, rfl, h0, r0⟩ := trodAll_cons hA
  obtain ⟨v1, vs1, d1, ds1, p1, q1, rfl, rfl, rfl, h1, r1⟩ := trodAll_cons r0
  obtain ⟨v2, vs2, d2, ds2, p2, q2, rfl, rfl, rfl, h2, r2⟩ := trodAll_cons r1
  obtain ⟨rfl, rfl, rfl⟩ := trodAll_nil r2
  obtain rfl : args = #[v0, v1, v2] := by cases args; simp_all
  obtain ⟨rfl, rfl⟩ := trodVars_none hV
  obtain ⟨a0, rfl, rfl, rfl, y0⟩ := open_string Try.underlying9 (hval 0 9 v0 rfl rfl) h0
  have w0 : a0.size ≤ 140737488351232 := by
    have z := sized_string hsz (j := 0) (t := 9) rfl rfl
    rw [Array.length_toList] at z
    exact z
  obtain ⟨a1, rfl, rfl, rfl, w1⟩ := open_int Try.underlying3 (hval 1 3 v1 rfl rfl) h1
  have bd1 := bounds_i64 w1
  have k2 := h2
  have lt2 : ∀ x ∈ p2, x.block < W.heap.size := by obtain ⟨m, hm⟩ := k2; exact DataW.trod_lt m _ _ _ hm
  obtain ⟨x0, x1, x2, x3, rfl⟩ : ∃ x0 x1 x2 x3 : UInt8, v2 = .agg (bs4 x0 x1 x2 x3) := by
    have h := hval 2 30 v2 rfl rfl
    simp only [Value.okWide, Try.underlying30] at h
    obtain ⟨cs, rfl, hcs, _⟩ := h
    obtain ⟨c0, c1, c2, c3, rfl⟩ := Joins.array4 (hcs.trans (show Try.prog.cellsOf 30 = 4 by kernel_rfl))
    obtain ⟨fuel, hf⟩ := h2
    obtain ⟨y0, y1, y2, y3, n, _, e0, e1, e2, e3⟩ := trod_array4 Try.underlying30 (by kernel_rfl) (by simpa [Value.cells] using hf)
    obtain ⟨n0, f0, _, g0⟩ := DataW.trod_int Try.underlying5 e0
    obtain ⟨b0, hb0⟩ := byte_of g0
    obtain ⟨n1, f1, _, g1⟩ := DataW.trod_int Try.underlying5 e1
    obtain ⟨b1, hb1⟩ := byte_of g1
    obtain ⟨n2, f2, _, g2⟩ := DataW.trod_int Try.underlying5 e2
    obtain ⟨b2, hb2⟩ := byte_of g2
    obtain ⟨n3, f3, _, g3⟩ := DataW.trod_int Try.underlying5 e3
    obtain ⟨b3, hb3⟩ := byte_of g3
    simp only [List.cons.injEq, and_true] at f0 f1 f2 f3
    subst f0 f1 f2 f3
    exact ⟨b0, b1, b2, b3, by unfold bs4; rw [hb0, hb1, hb2, hb3]⟩
  clear hA0 hval0 hsz0 hsz
  refine (sumsUnlike_walk a0 a1 x0 x1 x2 x3 W w0 bd1.1 bd1.2).mono fun e W' ⟨he, bel⟩ => ?_
  subst he
  exact ⟨_, rfl, _, _, _, [], _, [], hW', trodAll_mk1 (shut_bool Try.underlying4 _), (trodAll_cons_mk (shut_string Try.underlying9 y0) (trodAll_cons_mk (shut_int Try.underlying3 w1) (trodAll_cons_mk (Below.trod laidOut (by kernel_rfl) (of_decide_eq_true (by kernel_rfl)) k2 bel lt2) trodAll_mk0))), rfl, bel.frame _, fun h => by cases h⟩
theorem over : Rows.sumsUnlikeRow.holds Try.pinned (OpenSpec.ofChange Rows.sumsUnlikeSpec) :=
  OpenClaim.holds_of_wide 6 Try.f6 rfl rfl rfl rfl rfl rfl rfl ⟨rfl, rfl, rfl, rfl, rfl⟩ rfl rfl rfl rfl rfl (by kernel_rfl) Try.func6 (by kernel_rfl)
    (of_decide_eq_true (by kernel_rfl)) (by unfold Func.isWrapper; first | (rw [if_pos (by decide +kernel)]; kernel_rfl) | (rw [if_neg (by decide +kernel)]; exact ⟨rfl, rfl⟩))
    (fun os started H enc _ => lifted os started H enc)
theorem proved : Rows.SumsUnlikeSaid := over
end Go.Proofs.Ytkggemkaddkdfaa.sumsUnlike
namespace Go.Proofs.Ytkggemkaddkdfaa
theorem sumsUnlike_holds : Rows.SumsUnlikeSaid := sumsUnlike.proved
end Go.Proofs.Ytkggemkaddkdfaa
