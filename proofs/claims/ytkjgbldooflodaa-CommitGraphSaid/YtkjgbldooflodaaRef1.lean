/-
  The walk of the reference's Print: the same fingerprint.
-/
import Derived.Test.YtkjgbldooflodaaBy2
namespace Go.Proofs.Ytkjgbldooflodaa
open Go.RowKit
set_option maxRecDepth 100000
theorem Blk.rd {k : IntKind} {T : TypeId} {w : World} {g : Nat} {l : List Int} (h : Blk k T w g l) : Rd k w ⟨g, 0, none⟩ l := fun j hj => by
  have := h.cell j hj
  unfold Addr.add
  by_cases h0 : j = 0
  · subst h0; simpa using this
  · simpa [h0] using this
theorem h_any (w : World) : Calls Try.prog 34 #[] w fun e w' => e = .returned (.slice (some ⟨w.heap.size, 0, none⟩) 8 8) ∧ w' = w.alloc (.cells (ivals .u32 Sha.h0) 104) := by
  go_enter Try.func34, Try.ntmps34
  go_wp2
  go_ret
  exact ⟨rfl, rfl⟩
theorem k_any (w : World) : Calls Try.prog 35 #[] w fun e w' => e = .returned (.slice (some ⟨w.heap.size, 0, none⟩) 64 64) ∧ w' = w.alloc (.cells (ivals .u32 Sha.kst) 104) := by
  go_enter Try.func35, Try.ntmps35
  go_wp2
  go_ret
  exact ⟨rfl, rfl⟩
theorem h_rd (w : World) : Calls Try.prog 34 #[] w fun e w' => (∃ ad, e = .returned (.slice (some ad) 8 8) ∧ Rd .u32 w' ad Sha.h0 ∧ ad.block < w'.heap.size) ∧ Below w.heap.size w w' := by
  refine (h_any w).mono ?_
  rintro e w' ⟨rfl, rfl⟩
  exact ⟨⟨_, rfl, (Blk.new _ _ _ _).rd, (Blk.new _ _ _ _).lt⟩, (Below.refl _ _).alloc (Nat.le_refl _) _⟩
theorem k_rd (w : World) : Calls Try.prog 35 #[] w fun e w' => (∃ ad, e = .returned (.slice (some ad) 64 64) ∧ Rd .u32 w' ad Sha.kst) ∧ Below w.heap.size w w' := by
  refine (k_any w).mono ?_
  rintro e w' ⟨rfl, rfl⟩
  exact ⟨⟨_, rfl, (Blk.new _ _ _ _).rd⟩, (Below.refl _ _).alloc (Nat.le_refl _) _⟩
theorem rprint_any (s : ByteArray) (w : World) (hs : s.size ≤ 140737488351232) :
    Calls Try.prog 17 #[.string s] w fun e w' => e = .returned (.string (Sha.sha s)) ∧ Below w.heap.size w w' := by
  go_enter Try.func17, Try.ntmps17
  go_wp2_with (first | (go_at_call 34; refine (h_rd _).mono ?_; rintro e w1 ⟨⟨ad1, rfl, h1, h1l⟩, b1⟩) | (go_at_call 35; refine (k_rd _).mono ?_; rintro e w2 ⟨⟨ad2, rfl, h2⟩, b2⟩) | (go_at_call 33; refine (by_any s w2 hs _ _ 8 64 (h1.below b2) h2).mono ?_; rintro e w3 ⟨rfl, b3⟩))
  go_ret
  exact ⟨rfl, (b1.trans (b2.mono b1.size)).trans (b3.mono (Nat.le_trans b1.size b2.size))⟩
end Go.Proofs.Ytkjgbldooflodaa
