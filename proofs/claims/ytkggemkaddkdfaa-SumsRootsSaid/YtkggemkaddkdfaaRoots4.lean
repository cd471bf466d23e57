/-
  The walk of the law SumsRoots: the roots of the first primes are the known numbers.
-/
import Derived.Test.YtkggemkaddkdfaaRoots3
import Derived.Test.YtkggemkaddkdfaaSums
namespace Go.Proofs.Ytkggemkaddkdfaa
open Go.RowKit
set_option maxRecDepth 100000
theorem root_h : (rootl (Rt.P 20) 2).map (fun (n : Nat) => (n : Int)) = Sha.h0 := by decide +kernel
theorem root_k : (rootl (Rt.P 312) 3).map (fun (n : Nat) => (n : Int)) = Sha.kst := by decide +kernel
theorem rd_of_row {w : World} {base n : Nat} {e : TypeId} {v : Value} {l : List Int} (h : w.ownsRow base e 1 v n (l.map (Value.int .u32))) (hn : 0 < n) : ∃ ad c, v = .slice (some ad) n c ∧ Rd .u32 w ad l ∧ ad.block < w.heap.size := by
  obtain ⟨g, cap, rfl, hc, hg⟩ := n64_some h hn
  refine ⟨⟨g, 0, none⟩, cap, rfl, fun j hj => ?_, hg⟩
  have hl : l.length = n := by have := h.1; simpa using this
  have h1 := row_cell h j (by omega) _ rfl
  have ha : (⟨g, 0, none⟩ : Addr).add j = ⟨g, j, none⟩ := by unfold Addr.add; split <;> simp_all
  rw [ha]
  exact h1
theorem sumsRoots_walk (s : ByteArray) (w : World) (hs : s.size ≤ 140737488351232) :
    Calls Try.prog 4 #[.string s] w fun e w' => e = .returned (.bool true) ∧ Below w.heap.size w w' := by
  go_enter Try.func4, Try.ntmps4
  go_wp2_with (fail)
  go_at_call 7
  refine (alive_any w).mono ?_
  rintro e w1 ⟨rfl, hb1⟩
  by_cases hl : (s.size : Int) > 200
  · go_wp2
    go_ret
    exact ⟨rfl, hb1⟩
  · go_wp2_with (fail)
    go_at_call 8
    refine (print_any s w1 hs).mono ?_
    rintro e w2 ⟨rfl, hb2⟩
    have b2 := hb1.trans (hb2.mono hb1.size)
    clear hb1 hb2
    go_wp2_with (fail)
    go_at_call 11
    refine (roots_any 8 20 2 w2 Rt.P_20 (by omega) (by omega) (by omega) (by omega)).mono ?_
    rintro e w3 ⟨⟨v1, rfl, h1⟩, hb3⟩
    unfold n32 at h1
    rw [root_h] at h1
    obtain ⟨ad1, c1, rfl, r1, l1⟩ := rd_of_row h1 (by omega)
    have b3 := b2.trans (hb3.mono b2.size)
    clear hb3 b2 h1
    go_wp2_with (fail)
    go_at_call 11
    refine (roots_any 64 312 3 w3 Rt.P_312 (by omega) (by omega) (by omega) (by omega)).mono ?_
    rintro e w4 ⟨⟨v2, rfl, h2⟩, hb4⟩
    unfold n32 at h2
    rw [root_k] at h2
    obtain ⟨ad2, c2, rfl, r2, l2⟩ := rd_of_row h2 (by omega)
    have b4 := b3.trans (hb4.mono b3.size)
    have r1' := r1.below hb4
    clear hb4 b3 h2 r1
    go_wp2_with (fail)
    go_at_call 10
    refine (by_any s w4 hs ad1 ad2 c1 c2 r1' r2).mono ?_
    rintro e w5 ⟨rfl, hb5⟩
    go_wp2_with (fail)
    go_ret
    exact ⟨by simp, b4.trans (hb5.mono b4.size)⟩
end Go.Proofs.Ytkggemkaddkdfaa
