/-
  The walk of sums.Hex: two digits a byte.
-/
import Derived.Test.YtgfjfpghjjknlaaDoorBld
import Derived.Test.YtgfjfpghjjknlaaDoorCl2
namespace Go.Proofs.YtgfjfpghjjknlaaDoor
open Go.RowKit
set_option maxRecDepth 100000
namespace Hx
/-- A digit of a number below 16. -/
def d (n : Nat) : UInt8 := if n < 10 then UInt8.ofNat (48 + n) else UInt8.ofNat (87 + n)
def hex (l : List UInt8) : List UInt8 := l.flatMap fun b => [d (b.toNat / 16), d (b.toNat % 16)]
def str (s : ByteArray) : ByteArray := ⟨(hex s.data.toList).toArray⟩
theorem hex_length (l : List UInt8) : (hex l).length = 2 * l.length := by
  induction l with
  | nil => rfl
  | cons a l ih => simp only [hex, List.flatMap_cons, List.length_append, List.length_cons, List.length_nil] at ih ⊢; omega
theorem hex_snoc (l : List UInt8) (b : UInt8) : hex (l ++ [b]) = hex l ++ [d (b.toNat / 16)] ++ [d (b.toNat % 16)] := by
  simp [hex]
def digits : ByteArray := ⟨#[48, 49, 50, 51, 52, 53, 54, 55, 56, 57, 97, 98, 99, 100, 101, 102]⟩
theorem digits_at : ∀ n : Fin 16, (digits[n.1]'(n.2)).toNat = (d n.1).toNat := by decide
end Hx
theorem digit_val (n : Nat) (h : n < 16) (h' : n < (⟨#[48, 49, 50, 51, 52, 53, 54, 55, 56, 57, 97, 98, 99, 100, 101, 102]⟩ : ByteArray).size) :
    ((⟨#[48, 49, 50, 51, 52, 53, 54, 55, 56, 57, 97, 98, 99, 100, 101, 102]⟩ : ByteArray)[n]'h').toNat = (Hx.d n).toNat := Hx.digits_at ⟨n, h⟩
theorem byteCells_snoc (l : List UInt8) (b : UInt8) : Lib.byteCells (l ++ [b]) = Lib.byteCells l ++ [.int .u8 b.toNat] := by simp [Lib.byteCells]
set_option maxHeartbeats 1000000 in
theorem hex_any (s : ByteArray) (w : World) (hs : s.size ≤ 70368744177663) :
    Calls Tryd.prog 30 #[.string s] w fun e w' => e = .returned (.string (Hx.str s)) ∧ Below w.heap.size w w' := by
  go_enter Tryd.func30, Tryd.ntmps30
  go_wp2
  go_loopw [7] (fun v wr => ∃ i : Nat, i ≤ s.size ∧ v = .int .i64 i ∧ Lib.IsBuilder 61 5 w.heap.size w.heap.size (Lib.byteCells (Hx.hex (s.data.toList.take i))) wr ∧ Below w.heap.size w wr)
    (fun v _ => s.size - (intOf v).toNat)
  case atStart => exact ⟨0, by omega, rfl, Lib.fresh_isBuilder _ _ w, (Below.refl _ _).alloc (Nat.le_refl _) _⟩
  case round =>
    obtain ⟨i, hi, rfl, hb, hB⟩ := hrel
    by_cases hil : i < s.size
    · obtain ⟨x, hx⟩ : ∃ x : UInt8, x = s[i] := ⟨_, rfl⟩
      have hxv : byteAt s i = (x.toNat : Int) := by unfold byteAt; rw [dif_pos hil, hx]
      have hix := fun w => run_index_byteAt (P := Tryd.prog) (t := 9) rfl s (i : Int) i rfl hil w
      rw [hxv] at hix
      have hx256 := x.toNat_lt
      have hts : s.data.toList.take (i + 1) = s.data.toList.take i ++ [x] := by
        rw [hx, List.take_succ_eq_append_getElem (by simpa using hil)]; rfl
      have hln : (Lib.byteCells (Hx.hex (s.data.toList.take i))).length ≤ 140737488355326 := by
        have : (s.data.toList.take i).length = i := by rw [List.length_take]; have : s.data.toList.length = s.size := rfl; omega
        simp [Lib.byteCells, Hx.hex_length]; omega
      have HT := Lib.hid hts
      clear hts hxv hx
      generalize HL : Hx.hex (s.data.toList.take i) = hl at hb hln
      replace HL := Lib.hid HL

      have hn1 : x.toNat / 16 < 16 := by omega
      have hn2 : x.toNat % 16 < 16 := by omega
      have hbb := hB.size
      go_wp2_with (fail)
      go_at_call 50
      refine (writeByte_any w.heap.size w.heap.size (Lib.byteCells hl) _ wr hb hbb (by omega)).mono ?_
      rintro e w1 ⟨rfl, hb1, hB1⟩
      rw [digit_val _ hn1, ← byteCells_snoc] at hb1
      have hbb1 := hB1.size
      have hln1 : (Lib.byteCells (hl ++ [Hx.d (x.toNat / 16)])).length < 140737488355328 := by rw [byteCells_snoc, List.length_append]; simp; omega
      go_wp2_with (fail)
      go_at_call 50
      refine (writeByte_any w.heap.size w.heap.size (Lib.byteCells (hl ++ [Hx.d (x.toNat / 16)])) _ w1 hb1 (Nat.le_trans hbb hbb1) hln1).mono ?_
      rintro e w2 ⟨rfl, hb2, hB2⟩
      rw [digit_val _ hn2, ← byteCells_snoc] at hb2
      clear hb hb1
      go_wp2
      go_roundw
      case rel =>
        refine ⟨i + 1, hil, by go_num, ?_, (hB.trans (hB1.mono (Nat.le_refl _))).trans (hB2.mono (Nat.le_refl _))⟩
        rw [HT.out, Hx.hex_snoc, HL.out]
        exact hb2
      case measure => simp [intOf]; omega
    · obtain rfl : i = s.size := by omega
      have hall : s.data.toList.take s.size = s.data.toList := List.take_of_length_le (Nat.le_refl _)
      rw [hall] at hb
      have hbb := hB.size
      clear hall
      go_wp2_with (fail)
      go_at_call 51
      refine (Tryd.Builder_String_any w.heap.size w.heap.size _ wr hb hbb).mono ?_
      rintro e w2 ⟨rfl, hB2⟩
      go_wp2
      go_ret
      exact ⟨rfl, hB.trans hB2⟩
end Go.Proofs.YtgfjfpghjjknlaaDoor
