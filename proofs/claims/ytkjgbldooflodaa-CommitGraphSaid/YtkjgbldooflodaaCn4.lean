/-
  A heap of a list of texts; the walk of commit.Is.
-/
import Derived.Test.YtkjgbldooflodaaCmO
import Derived.Test.YtkjgbldooflodaaCm4
import Derived.Test.YtkjgbldooflodaaCmH
import Derived.Test.YtkjgbldooflodaaCn1
namespace Go.Proofs.Ytkjgbldooflodaa
open Go.RowKit Cm Mp
set_option maxRecDepth 100000
set_option linter.unusedVariables false
set_option linter.unusedSimpArgs false
/-- What a heap of some texts tells: of a print the first such text. -/
def srcOf (T : List ByteArray) (p : ByteArray) : Option ByteArray := T.find? fun t => decide (Sha.sha t = p)
theorem srcOf_step (T : List ByteArray) (t : ByteArray) : putS (srcOf T) (Sha.sha t) t = srcOf (T ++ [t]) := by
  funext p
  unfold putS srcOf
  rw [List.find?_append]
  by_cases hp : p = Sha.sha t
  · subst hp
    rw [if_pos rfl]
    cases h : T.find? fun u => decide (Sha.sha u = Sha.sha t) with
    | some u => rfl
    | none => simp
  · rw [if_neg hp]
    cases h : T.find? fun u => decide (Sha.sha u = p) with
    | some u => rfl
    | none =>
      have h2 : decide (Sha.sha t = p) = false := decide_eq_false (fun e => hp e.symm)
      simp [h2]
theorem newheap_any (o : Option Addr) (T : List ByteArray) (c : Nat) (w : World) (hs : Ss w o T) (hT : ∀ t ∈ T, t.size ≤ 140737488351232) (hl : T.length ≤ 1000) :
    Calls Try.prog 13 #[.slice o T.length c] w fun e w' => ∃ hb mb n, e = .returned (.pointer (some ⟨hb, 0, none⟩)) ∧ w.heap.size ≤ hb ∧ w.heap.size ≤ mb ∧ Src w' hb mb n (srcOf T) ∧ Below w.heap.size w w' := by
  have hmm := @run_makeMap Try.prog
  have hb := (Below.refl w.heap.size w).alloc (Nat.le_refl _) (.map #[] 0)
  have hb2 := hb.alloc (by simp) (.cells #[.map (some w.heap.size)] 71)
  have hsrc : Src ((w.alloc (.map #[] 0)).alloc (.cells #[.map (some w.heap.size)] 71)) (w.heap.size + 1) w.heap.size 0 (srcOf (T.take 0)) := by
    refine ⟨?_, ?_⟩
    · have := heap_alloc_new (w.alloc (.map #[] 0)) (.cells #[.map (some w.heap.size)] 71)
      simpa using this
    · exact (MF.made w).block (Lib.alloc_old _ _ _ (by simp))
  have HT := Lib.hid hT
  clear hT
  go_enter Try.func13, Try.ntmps13
  go_wp2
  go_loopw [11] (fun v wr => ∃ i : Nat, v = .int .i64 i ∧ i ≤ T.length ∧ Src wr (w.heap.size + 1) w.heap.size i (srcOf (T.take i)) ∧ Below w.heap.size w wr) (fun v _ => T.length - (intOf v).toNat)
  case atStart => exact ⟨0, by first | rfl | trivial, Nat.zero_le _, hsrc, hb2⟩
  case round =>
    obtain ⟨i, rfl, hi, hS, hB⟩ := hrel
    by_cases hil : i < T.length
    · obtain ⟨a, rfl⟩ := ss_some hs hil
      obtain ⟨x, hx⟩ : ∃ x, T[i]? = some x := ⟨T[i], List.getElem?_eq_getElem hil⟩
      have cx := (hs.below hB).at hx
      have hxz := HT.out x (List.mem_of_getElem? hx)
      have i16 : (i : Int) < T.length := by omega
      have i17 : IntKind.i64.wrap ((i : Int) + 1) = (i : Int) + 1 := wrap_fit _ (by omega) (by omega)
      have hput' := hput_any (w.heap.size + 1) w.heap.size i (srcOf (T.take i)) x wr hS hxz (by omega)
      rw [srcOf_step, show T.take i ++ [x] = T.take (i + 1) by rw [List.take_add_one, hx]; rfl] at hput'
      have HX := Lib.hid hx
      clear hx
      go_wp2_with (go_at_call 32; refine hput'.mono ?_; rintro e w3 ⟨rfl, hS3, hg3⟩)
      have hB3 := hB.trans (below_of_grown hg3 (fun k hk => by cases hk; exact Nat.le_refl _) hB.size)
      go_roundw
      case rel => exact ⟨i + 1, by go_num, hil, hS3, hB3⟩
      case measure => simp [intOf]; omega
    · obtain rfl : i = T.length := by omega
      rw [List.take_length] at hS
      go_wp2
      go_ret
      exact ⟨w.heap.size + 1, w.heap.size, T.length, rfl, by omega, Nat.le_refl _, hS, hB⟩
theorem is_any (S : ByteArray → Option ByteArray) (K : List ByteArray) (hb mb ns : Nat) (q p : ByteArray) (w : World) (hS : Src w hb mb ns S) (hK : ∀ s, S s ≠ none → s ∈ K) (hKl : K.length ≤ 100000) (hz : ∀ s t, S s = some t → t.size ≤ 1000000)
    (hfp : ∀ s, Ahd S p s → par S s ≠ none) (hp32 : p.size ≤ maxLen) (hq32 : q.size ≤ maxLen) :
    Calls Try.prog 28 #[hp hb, .string q, .string p] w fun e w' => ∃ bo, e = .returned (.tuple #[.bool bo, .int .i64 0]) ∧ (bo = true ↔ Ahd S p q) ∧ Below w.heap.size w w' := by
  obtain ⟨l1, l2⟩ := hS.lt
  have hb1 : Below w.heap.size w (w.alloc (.map #[] 0)) := (Below.refl _ _).alloc (Nat.le_refl _) _
  have hx : Calls Try.prog 36 #[.map (some w.heap.size), hp hb, .string p] (w.alloc (.map #[] 0)) fun e w' => ∃ n g o k cp, e = .returned (.int .i64 0) ∧ Full S p g ∧ (Instr.lookup 79 (.map (some w.heap.size)) (.string q) true).run Try.prog w' = .ok (.tuple #[.slice o k cp, .bool (g q).isSome]) w' ∧ GR w' w.heap.size n none g ∧ (w.alloc (.map #[] 0)).grownBy w' (some w.heap.size) := by
    refine (add_any S K hb mb ns w.heap.size p _ (hS.below hb1 l1 l2) hK hKl hz (GR.made w none) (by omega) (by omega) hp32).mono ?_
    rintro e w' ⟨hg, ⟨rfl, g, n, vis, hgr, hf, _, hu⟩ | ⟨_, s, hs, hn⟩⟩
    · obtain ⟨o, k, cp, hrun, _⟩ := hgr.get 79 Try.underlying79 q hq32 true
      exact ⟨n, g, o, k, cp, rfl, hf, hrun, hgr, hg⟩
    · exact absurd hn (hfp s hs)
  have hmm := @run_makeMap Try.prog
  clear hS hK hKl hz hfp
  go_enter Try.func28, Try.ntmps28
  go_wp2_with (go_at_call 36; with_reducible refine hx.mono ?_; rintro e w2 ⟨n, g, o, k, cp, rfl, hf, hrun, hgr, hg2⟩)
  exact bodyPost_ret (v := .tuple #[.bool (g q).isSome, .int .i64 0]) (by simp [results, Try.results28, go_sem]) rfl ⟨_, rfl, hf.dom q, hb1.trans (below_of_grown hg2 (fun k hk => by cases hk; exact Nat.le_refl _) hb1.size)⟩
end Go.Proofs.Ytkjgbldooflodaa
