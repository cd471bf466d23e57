/-
  The law SplitBehind: its row, out of its walk.
-/
import Derived.Test.YtncjggobpmmonaaRows
import Derived.Test.YtncjggobpmmonaaBehind
import Derived.Test.YtncjggobpmmonaaStrs
import Derived.WalkKit
import Derived.ProofKit
import Derived.OpenShut
import Derived.ShutString
import Derived.ChangeOld
import Derived.Below
namespace Go.Proofs.Ytncjggobpmmonaa.splitBehind
open Go.ChangeShapes Go.WideShapes Go.ChangeAt Go.RowKit
set_option linter.unusedVariables false
theorem own : ownKnob Try.prog.godebug = none := by kernel_rfl
theorem laidOut : laidOutB Try.prog = true := by kernel_rfl
def IsStrs (W : World) (o : Option Addr) (len cap : Nat) (ls : List ByteArray) : Prop :=
  ls.length = len ∧ len ≤ cap ∧ len ≤ maxLen ∧ (o = none → cap = 0) ∧ Vs W o (ls.map Value.string) ∧ ∀ i, i < ls.length → (ls.getD i ByteArray.empty).size ≤ 140737488351232
set_option maxRecDepth 100000 in
theorem lifted (os : Os) (started : os.Started) (H : Type) (enc : TypeId × Value → H) :
    ReturnsInHanded {} Try.checked os 5 .any (Rows.splitBehindSpec.pre6 enc Try.prog Try.f5 Rows.splitBehindRow.domain false) (Rows.splitBehindSpec.post enc Try.prog Try.f5 false true false false) := by
  refine returnsInHanded_of_change_sized (C := Try.checked) own started (by kernel_rfl) Try.func5
    (ChangeSpec.witness6 (enc := enc) (C := Try.checked) false ⟨#[], #[.slice none 0 0, .slice none 0 0], []⟩ 8 (by kernel_rfl) (by kernel_rfl) (by kernel_rfl) (by kernel_rfl)) ?_
  intro W base args ds gs before hval0 hW hcnd hsz0 _
  have hsz : (DataW.weightsEach Try.prog (Try.f5.params.toList ++ Rows.splitBehindSpec.plain.varTypes Try.prog) (ds ++ gs)).all (· ≤ reachBytes) = true := hsz0
  have hval : ∀ (j : Nat) t v, Try.f5.params[j]? = some t → args[j]? = some v → Value.okWide Try.prog W .any base t v := hval0
  have hW' := hW
  obtain ⟨p, q, hA0, hV, rfl, hfz, hnd⟩ := hW
  have hA : DataW.TrodAll enc Try.prog W 0 (fun _ => true) true Try.f5.params.toList args.toList ds p := hA0
  rw [Try.params5] at hA hval hsz
  obtain ⟨v0, vs0, d0, ds0, p0, q0, hargs, rfl, rfl, h0, r0⟩ := trodAll_cons hA
  obtain ⟨v1, vs1, d1, ds1, p1, q1, rfl, rfl, rfl, h1, r1⟩ := trodAll_cons r0
  obtain ⟨rfl, rfl, rfl⟩ := trodAll_nil r1
  obtain rfl : args = #[v0, v1] := by cases args; simp_all
  obtain ⟨rfl, rfl⟩ := trodVars_none hV
  obtain ⟨a0, len0, cap0, rfl⟩ := okWide_slice Try.underlying22 (hval 0 22 v0 rfl rfl)
  have k0 := h0
  have lt0 : ∀ x ∈ p0, x.block < W.heap.size := by obtain ⟨m, hm⟩ := k0; exact DataW.trod_lt m _ _ _ hm
  obtain ⟨z0, hl0, hc0, hm0, hn0, hv0, hz0⟩ : ∃ zs, IsStrs W a0 len0 cap0 zs := by
    obtain ⟨fuel, hf⟩ := h0
    rcases open_strings Try.underlying22 Try.underlying9 (by kernel_rfl) hf with ⟨hcs, _⟩ | ⟨x, l, c, ss, hcs, _, hl, hm, hz, hx, hcell, _⟩
    · simp [Value.cells] at hcs
      obtain ⟨rfl, rfl, rfl⟩ := hcs
      exact ⟨[], rfl, Nat.le_refl _, Nat.zero_le _, fun _ => rfl, Vs.nil, fun i hi => absurd hi (Nat.not_lt_zero _)⟩
    · simp [Value.cells] at hcs
      obtain ⟨rfl, rfl, rfl⟩ := hcs
      obtain ⟨hx, _⟩ := Prod.mk.inj hx
      subst hx
      have hsl : ss.length = cap0 := by simpa using hz
      have htl : (ss.take len0).length = len0 := by rw [List.length_take]; omega
      have hsm := sized_strs hsz (j := 0) (t := 22) rfl rfl Try.underlying22
      refine ⟨ss.take len0, htl, hl, Nat.le_trans hl hm, (fun h => by cases h), ⟨fun _ => ⟨_, rfl⟩, fun a ha i u hu => ?_⟩, fun i hi => ?_⟩
      · injection ha with ha
        subst ha
        have hi : i < len0 := by have := (List.getElem?_eq_some_iff.1 hu).1; rw [List.length_map, htl] at this; exact this
        rw [hcell i (by omega), ← hu, List.getElem?_map, List.getElem?_take_of_lt hi]
        simp [List.getD_eq_getElem?_getD, List.getElem?_eq_getElem (show i < ss.length by omega)]
      · rw [List.getD_eq_getElem?_getD, List.getElem?_eq_getElem hi]
        exact hsm _ (List.getElem_mem hi)
  subst hl0
  obtain ⟨a1, len1, cap1, rfl⟩ := okWide_slice Try.underlying22 (hval 1 22 v1 rfl rfl)
  have k1 := h1
  have lt1 : ∀ x ∈ p1, x.block < W.heap.size := by obtain ⟨m, hm⟩ := k1; exact DataW.trod_lt m _ _ _ hm
  obtain ⟨z1, hl1, hc1, hm1, hn1, hv1, hz1⟩ : ∃ zs, IsStrs W a1 len1 cap1 zs := by
    obtain ⟨fuel, hf⟩ := h1
    rcases open_strings Try.underlying22 Try.underlying9 (by kernel_rfl) hf with ⟨hcs, _⟩ | ⟨x, l, c, ss, hcs, _, hl, hm, hz, hx, hcell, _⟩
    · simp [Value.cells] at hcs
      obtain ⟨rfl, rfl, rfl⟩ := hcs
      exact ⟨[], rfl, Nat.le_refl _, Nat.zero_le _, fun _ => rfl, Vs.nil, fun i hi => absurd hi (Nat.not_lt_zero _)⟩
    · simp [Value.cells] at hcs
      obtain ⟨rfl, rfl, rfl⟩ := hcs
      obtain ⟨hx, _⟩ := Prod.mk.inj hx
      subst hx
      have hsl : ss.length = cap1 := by simpa using hz
      have htl : (ss.take len1).length = len1 := by rw [List.length_take]; omega
      have hsm := sized_strs hsz (j := 1) (t := 22) rfl rfl Try.underlying22
      refine ⟨ss.take len1, htl, hl, Nat.le_trans hl hm, (fun h => by cases h), ⟨fun _ => ⟨_, rfl⟩, fun a ha i u hu => ?_⟩, fun i hi => ?_⟩
      · injection ha with ha
        subst ha
        have hi : i < len1 := by have := (List.getElem?_eq_some_iff.1 hu).1; rw [List.length_map, htl] at this; exact this
        rw [hcell i (by omega), ← hu, List.getElem?_map, List.getElem?_take_of_lt hi]
        simp [List.getD_eq_getElem?_getD, List.getElem?_eq_getElem (show i < ss.length by omega)]
      · rw [List.getD_eq_getElem?_getD, List.getElem?_eq_getElem hi]
        exact hsm _ (List.getElem_mem hi)
  subst hl1
  clear hA0 hval0 hsz0 hsz
  refine (splitBehind_walk a0 a1 cap0 cap1 z0 z1 W hv0 hv1 hc0 hc1 hn0 hn1 hz0 hz1 hm0 hm1).mono fun e W' ⟨he, bel⟩ => ?_
  subst he
  exact ⟨_, rfl, _, _, _, [], _, [], hW', trodAll_mk1 (shut_bool Try.underlying4 _), (trodAll_cons_mk (Below.trod laidOut (by kernel_rfl) (of_decide_eq_true (by kernel_rfl)) k0 bel lt0) (trodAll_cons_mk (Below.trod laidOut (by kernel_rfl) (of_decide_eq_true (by kernel_rfl)) k1 bel lt1) trodAll_mk0)), rfl, bel.frame _, fun h => by cases h⟩
theorem over : Rows.splitBehindRow.holds Try.pinned (OpenSpec.ofChange Rows.splitBehindSpec) :=
  OpenClaim.holds_of_wide 5 Try.f5 rfl rfl rfl rfl rfl rfl rfl ⟨rfl, rfl, rfl, rfl, rfl⟩ rfl rfl rfl rfl rfl (by kernel_rfl) Try.func5 (by kernel_rfl)
    (of_decide_eq_true (by kernel_rfl)) (by unfold Func.isWrapper; first | (rw [if_pos (by decide +kernel)]; kernel_rfl) | (rw [if_neg (by decide +kernel)]; exact ⟨rfl, rfl⟩))
    (fun os started H enc _ => lifted os started H enc)
theorem proved : Rows.SplitBehindSaid := over
end Go.Proofs.Ytncjggobpmmonaa.splitBehind
namespace Go.Proofs.Ytncjggobpmmonaa
theorem splitBehind_holds : Rows.SplitBehindSaid := splitBehind.proved
end Go.Proofs.Ytncjggobpmmonaa
