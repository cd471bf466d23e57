/-
  The walks of alive and of the laws SumsPrints and SumsChecks.
-/
import Derived.Test.YtkggemkaddkdfaaRef1
import Derived.Test.YtkggemkaddkdfaaAbc
namespace Go.Proofs.Ytkggemkaddkdfaa
open Go.RowKit
set_option maxRecDepth 100000
theorem alive_any (w : World) : Calls Try.prog 7 #[] w fun e w' => e = .returned (.bool true) ∧ Below w.heap.size w w' := by
  have hz : (⟨#[97, 98, 99]⟩ : ByteArray).size ≤ 140737488351232 := (by decide : (3 : Nat) ≤ 140737488351232)
  have hz9 : (⟨#[49, 50, 51, 52, 53, 54, 55, 56, 57]⟩ : ByteArray).size ≤ 140737488351232 := (by decide : (9 : Nat) ≤ 140737488351232)
  have hzs : (Sha.sha ⟨#[97, 98, 99]⟩).size ≤ 70368744177663 := by rw [sha_size1]; decide
  go_enter Try.func7, Try.ntmps7
  go_wp2_with (fail)
  go_at_call 8
  refine (print_any _ w hz).mono ?_
  rintro e w1 ⟨rfl, hb1⟩
  go_wp2_with (fail)
  go_at_call 14
  refine (hex_any _ w1 hzs).mono ?_
  rintro e w2 ⟨rfl, hb2⟩
  rw [abc_known]
  go_wp2_with (fail)
  go_at_call 12
  refine (check_any _ w2 hz9).mono ?_
  rintro e w3 ⟨rfl, hb3⟩
  rw [crc_known]
  go_wp2_with (fail)
  go_ret
  have b2 := hb1.trans (hb2.mono hb1.size)
  exact ⟨by simp, b2.trans (hb3.mono b2.size)⟩
theorem sumsPrints_walk (s : ByteArray) (w : World) (hs : s.size ≤ 140737488351232) :
    Calls Try.prog 3 #[.string s] w fun e w' => e = .returned (.bool true) ∧ Below w.heap.size w w' := by
  go_enter Try.func3, Try.ntmps3
  go_wp2_with (fail)
  go_at_call 7
  refine (alive_any w).mono ?_
  rintro e w1 ⟨rfl, hb1⟩
  by_cases hl : (s.size : Int) > 2000
  · go_wp2
    go_ret
    exact ⟨rfl, hb1⟩
  · go_wp2_with (fail)
    go_at_call 8
    refine (print_any s w1 hs).mono ?_
    rintro e w2 ⟨rfl, hb2⟩
    go_wp2_with (fail)
    go_at_call 9
    refine (rprint_any s w2 hs).mono ?_
    rintro e w3 ⟨rfl, hb3⟩
    go_wp2_with (fail)
    go_ret
    have b2 := hb1.trans (hb2.mono hb1.size)
    exact ⟨by simp, b2.trans (hb3.mono b2.size)⟩
theorem sumsChecks_walk (s : ByteArray) (w : World) (hs : s.size ≤ 140737488351232) :
    Calls Try.prog 5 #[.string s] w fun e w' => e = .returned (.bool true) ∧ Below w.heap.size w w' := by
  go_enter Try.func5, Try.ntmps5
  go_wp2_with (fail)
  go_at_call 7
  refine (alive_any w).mono ?_
  rintro e w1 ⟨rfl, hb1⟩
  by_cases hl : (s.size : Int) > 5000
  · go_wp2
    go_ret
    exact ⟨rfl, hb1⟩
  · go_wp2_with (fail)
    go_at_call 12
    refine (check_any s w1 hs).mono ?_
    rintro e w2 ⟨rfl, hb2⟩
    go_wp2_with (fail)
    go_at_call 13
    refine (rcheck_any s w2 hs).mono ?_
    rintro e w3 ⟨rfl, rfl⟩
    go_wp2_with (fail)
    go_ret
    exact ⟨by simp, hb1.trans (hb2.mono hb1.size)⟩
end Go.Proofs.Ytkggemkaddkdfaa
