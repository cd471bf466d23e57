/-
  The walk of awake: two commits.
-/
import Derived.Test.YtkjgbldooflodaaCmV
namespace Go.Proofs.Ytkjgbldooflodaa
open Go.RowKit Cm Mp
set_option maxRecDepth 100000
set_option linter.unusedVariables false
set_option linter.unusedSimpArgs false
set_option maxHeartbeats 2000000 in
theorem awake_any (w : World) : Calls Try.prog 9 #[] w fun e w' => e = .returned (.bool true) ∧ Below w.heap.size w w' := by
  have k1 := fun hb mb w h => cput_any hb mb 0 (fun _ => none) rootB [] ⟨#[]⟩ none 0 w h (by decide) Ss.nil (fun _ => rfl) (Nat.le_refl _) (by decide) (by decide) right1 text1 rfl
  have k2 := fun hb mb o w h hss hn => cput_any hb mb 1 (putS (fun _ => none) (Sha.sha text1) text1) rootB [Sha.sha text1] ⟨#[109]⟩ o 1 w h (by decide) hss hn (Nat.le_refl _) (by simp) (by decide) right2 text2 rfl
  have k3 := fun hb mb w (h : Src w hb mb 2 S2) => ahead_two S2 [Sha.sha text1, Sha.sha text2] hb mb 2 (Sha.sha text1) (Sha.sha text2) w h S2_keys (by simp) S2_sizes unlike par_a par_b (by rw [sha_size]; decide) (by rw [sha_size]; decide)
  have k4 := fun hb mb w (h : Src w hb mb 2 S2) => base_two S2 [Sha.sha text1, Sha.sha text2] hb mb 2 (Sha.sha text1) (Sha.sha text2) w h S2_keys (by simp) S2_sizes unlike par_a par_b (by rw [sha_size]; decide) (by rw [sha_size]; decide)
  rw [show putS (putS (fun _ => none) (Sha.sha text1) text1) (Sha.sha text2) text2 = S2 from rfl] at k2
  generalize putS (fun _ => none) (Sha.sha text1) text1 = S1 at k1 k2
  generalize Sha.sha text1 = a at k1 k2 k3 k4
  generalize Sha.sha text2 = b at k2 k3 k4
  generalize S2 = S at k2 k3 k4
  unfold rootB at k1 k2
  unfold hp at k1 k2 k3 k4
  go_enter Try.func9, Try.ntmps9
  go_wp2_with (fail)
  go_at_call 13
  refine (newheap_nil w).mono ?_
  rintro e w1 ⟨hb, mb, rfl, hh1, hm1, hS1, hB1⟩
  go_wp2_with (fail)
  go_at_call 12
  refine (k1 hb mb w1 hS1).mono ?_
  rintro e w2 ⟨rfl, hS2, hg2⟩
  have hw1 := hB1.size
  have hB2 : Below w.heap.size w w2 := ⟨hg2.os.trans hB1.os, hg2.tape.trans hB1.tape, hg2.output.trans hB1.output, Nat.le_trans hB1.size hg2.size, fun k hk => (hg2.block k (Nat.lt_of_lt_of_le hk hB1.size) (by simp; omega)).trans (hB1.block k hk)⟩
  have hS2' := hS2.below ((Below.refl w2.heap.size w2).alloc (Nat.le_refl _) (.cells #[.string a] 9)) hS2.lt.1 hS2.lt.2
  have hss2 := ss_new w2 a 9
  clear hS1 hg2
  go_wp2_with (fail)
  go_at_call 12
  refine (k2 hb mb _ _ hS2' hss2 (fun e => by cases e)).mono ?_
  rintro e w3 ⟨rfl, hS3, hg3⟩
  have hB2a : Below w.heap.size w (w2.alloc (.cells #[.string a] 9)) := hB2.alloc hB2.size _
  have hB3 : Below w.heap.size w w3 := ⟨hg3.os.trans hB2a.os, hg3.tape.trans hB2a.tape, hg3.output.trans hB2a.output, Nat.le_trans hB2a.size hg3.size, fun k hk => (hg3.block k (Nat.lt_of_lt_of_le hk hB2a.size) (by simp; omega)).trans (hB2a.block k hk)⟩
  clear hS2 hS2' hss2 hB2 hg3 hB2a
  go_wp2_with (fail)
  go_at_call 20
  refine (k3 hb mb w3 hS3).mono ?_
  rintro e w4 ⟨o, c, rfl, hss4, hb4⟩
  have hB4 := hB3.trans (hb4.mono hB3.size)
  have hS4 := hS3.below hb4 hS3.lt.1 hS3.lt.2
  clear hS3 hb4 hB3
  go_wp2_with (fail)
  go_at_call 23
  refine (k4 hb mb w4 hS4).mono ?_
  rintro e w5 ⟨rfl, hb5⟩
  have hB5 := hB4.trans (hb5.mono hB4.size)
  have hss5 := hss4.below hb5
  obtain ⟨ad, rfl⟩ := hss5.1 (by simp)
  have hca : w5.cell? ad = some (.string b) := hss5.at (i := 0) (x := b) rfl
  clear hss4 hss5 hS4 hb5 hB4 k1 k2 k3 k4
  go_wp2
  go_ret
  exact ⟨by first | rfl | (simp; done), hB5⟩
end Go.Proofs.Ytkjgbldooflodaa
