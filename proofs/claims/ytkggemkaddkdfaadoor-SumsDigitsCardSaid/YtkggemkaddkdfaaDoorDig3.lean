/-
  The walk of the law SumsDigits.
-/
import Derived.Test.YtkggemkaddkdfaaDoorDig2
import Derived.Test.YtkggemkaddkdfaaDoorAliveD
namespace Go.Proofs.YtkggemkaddkdfaaDoor
open Go.RowKit
set_option maxRecDepth 100000
set_option linter.unusedSimpArgs false
set_option linter.unusedVariables false
theorem raw_hex (s : ByteArray) : Dg.raw (Hx.str s) = s ∧ Dg.good (Hx.str s).data.toList = true := by
  have e : (Hx.str s).data.toList = Hx.hex s.data.toList := by unfold Hx.str; simp
  have g : Dg.good (Hx.str s).data.toList = true := by rw [e]; exact Dg.hex_good _
  refine ⟨?_, g⟩
  unfold Dg.raw
  rw [g, if_pos rfl, e, Dg.unhex_hex]
theorem str_size (s : ByteArray) : (Hx.str s).size = 2 * s.size := by
  unfold Hx.str
  show (Hx.hex s.data.toList).toArray.size = _
  rw [List.size_toArray, Hx.hex_length]
  rfl
theorem sumsDigits_walk (s : ByteArray) (w : World) (hs : s.size ≤ 140737488351232) :
    Calls Tryd.prog 3 #[.string s] w fun e w' => e = .returned (.bool true) ∧ Below w.heap.size w w' := by
  go_enter Tryd.func3, Tryd.ntmps3
  go_wp2_with (fail)
  go_at_call 4
  refine (alive_any w).mono ?_
  rintro e w1 ⟨rfl, hb1⟩
  by_cases hl : (s.size : Int) > 5000
  · go_wp2
    go_ret
    exact ⟨rfl, hb1⟩
  · go_wp2_with (fail)
    go_at_call 5
    with_reducible refine (hex_any s w1 (by omega)).mono ?_
    rintro e w2 ⟨rfl, hb2⟩
    have c2 := hb1.trans (hb2.mono hb1.size)
    have hz := str_size s
    obtain ⟨r1, r2⟩ := raw_hex s
    go_wp2_with (fail)
    go_at_call 6
    with_reducible refine (raw_any (Hx.str s) w2 (by omega)).mono ?_
    rintro e w3 ⟨rfl, hb3⟩
    have c3 := c2.trans (hb3.mono c2.size)
    rw [r1, r2]
    go_wp2_with (fail)
    go_at_call 6
    with_reducible refine (raw_any s w3 hs).mono ?_
    rintro e w4 ⟨rfl, hb4⟩
    have c4 := c3.trans (hb4.mono c3.size)
    go_wp2_with (fail)
    go_at_call 7
    with_reducible refine (rraw_any s w4 (by omega)).mono ?_
    rintro e w5 ⟨rfl, hb5⟩
    have c5 := c4.trans (hb5.mono c4.size)
    go_wp2_with (fail)
    go_at_call 8
    with_reducible refine (rhex_any s w5 (by omega)).mono ?_
    rintro e w6 ⟨rfl, hb6⟩
    have c6 := c5.trans (hb6.mono c5.size)
    go_wp2
    go_ret
    exact ⟨by simp, c6⟩
end Go.Proofs.YtkggemkaddkdfaaDoor
