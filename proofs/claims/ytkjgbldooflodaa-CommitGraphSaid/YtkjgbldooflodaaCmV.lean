/-
  The two commits of the laws' first look: known answers, and the walk of awake.
-/
import Derived.Test.YtkjgbldooflodaaCmU
namespace Go.Proofs.Ytkjgbldooflodaa
open Go.RowKit Cm Mp
set_option maxRecDepth 100000
set_option linter.unusedVariables false
set_option linter.unusedSimpArgs false
def rootB : ByteArray := ⟨#[48, 49, 50, 51, 52, 53, 54, 55, 56, 57, 48, 49, 50, 51, 52, 53, 54, 55, 56, 57, 48, 49, 50, 51, 52, 53, 54, 55, 56, 57, 48, 49]⟩
def text1 : ByteArray := ⟨(writeB ⟨rootB, [], ⟨#[]⟩⟩).toArray⟩
def text2 : ByteArray := ⟨(writeB ⟨rootB, [Sha.sha text1], ⟨#[109]⟩⟩).toArray⟩
theorem unlike : Sha.sha text1 ≠ Sha.sha text2 := by decide +kernel
theorem right1 : right ⟨rootB, [], ⟨#[]⟩⟩ = true := by decide +kernel
theorem right2 : right ⟨rootB, [Sha.sha text1], ⟨#[109]⟩⟩ = true := by
  have h := sha_size text1
  unfold right fine twice
  simp only [List.all_cons, List.all_nil, h]
  rfl
theorem size1 : text1.size ≤ 1000000 := by decide +kernel
theorem size2 : text2.size ≤ 1000000 := by
  have h := sha_size text1
  obtain ⟨r1, r2, r3, r4, r5⟩ := right_parts right2
  dsimp only at r4
  show (writeB ⟨rootB, [Sha.sha text1], ⟨#[109]⟩⟩).toArray.size ≤ _
  rw [List.size_toArray]
  unfold writeB joined
  simp only [List.length_cons, List.length_append, List.flatMap_cons, List.flatMap_nil, List.length_nil, size_list, h, r4]
  decide
/-- What the heap tells behind both puts. -/
def S2 : ByteArray → Option ByteArray := putS (putS (fun _ => none) (Sha.sha text1) text1) (Sha.sha text2) text2
theorem S2_a : S2 (Sha.sha text1) = some text1 := by
  unfold S2
  generalize ha : Sha.sha text1 = a
  generalize hb : Sha.sha text2 = b
  have hab : a ≠ b := by rw [← ha, ← hb]; exact unlike
  unfold putS
  rw [if_neg hab, if_pos rfl]
  rfl
theorem S2_b : S2 (Sha.sha text2) = some text2 := by
  unfold S2
  generalize ha : Sha.sha text1 = a
  generalize hb : Sha.sha text2 = b
  have hab : b ≠ a := by rw [← ha, ← hb]; exact unlike.symm
  unfold putS
  rw [if_pos rfl, if_neg hab]
  rfl
theorem S2_n (s : ByteArray) (h1 : s ≠ Sha.sha text1) (h2 : s ≠ Sha.sha text2) : S2 s = none := by
  unfold S2
  generalize Sha.sha text1 = a at h1
  generalize Sha.sha text2 = b at h2
  unfold putS
  rw [if_neg h2, if_neg h1]
theorem par_a : par S2 (Sha.sha text1) = some [] := by
  unfold par getC
  rw [S2_a]
  show (readC text1).map _ = _
  unfold text1
  rw [read_write _ right1]
  rfl
theorem par_b : par S2 (Sha.sha text2) = some [Sha.sha text1] := by
  unfold par getC
  rw [S2_b]
  show (readC text2).map _ = _
  unfold text2
  rw [read_write _ right2]
  rfl
theorem S2_keys (s : ByteArray) (h : S2 s ≠ none) : s ∈ [Sha.sha text1, Sha.sha text2] := by
  by_cases h1 : s = Sha.sha text1
  · rw [h1]
    exact List.mem_cons_self ..
  · by_cases h2 : s = Sha.sha text2
    · rw [h2]
      exact List.mem_cons_of_mem _ (List.mem_cons_self ..)
    · exact absurd (S2_n s h1 h2) h
theorem S2_sizes (s t : ByteArray) (h : S2 s = some t) : t.size ≤ 1000000 := by
  by_cases h1 : s = Sha.sha text1
  · rw [h1, S2_a] at h
    cases h
    exact size1
  · by_cases h2 : s = Sha.sha text2
    · rw [h2, S2_b] at h
      cases h
      exact size2
    · rw [S2_n s h1 h2] at h
      cases h
end Go.Proofs.Ytkjgbldooflodaa
