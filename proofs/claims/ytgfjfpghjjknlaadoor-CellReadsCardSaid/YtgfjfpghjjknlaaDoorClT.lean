/-
  The walk of the reference's number; one value more of a list that is read (plain).
-/
import Derived.Test.YtgfjfpghjjknlaaDoorClN
namespace Go.Proofs.YtgfjfpghjjknlaaDoor
open Go.RowKit Cl
set_option maxRecDepth 100000
set_option linter.unusedVariables false
set_option linter.unusedSimpArgs false
theorem rnumber_any (s : ByteArray) (w : World) (h8 : 8 ≤ s.size) (hs : s.size ≤ 140737488351232) :
    Calls Tryd.prog 39 #[.string s] w fun e w' => e = .returned (.int .u64 (num (s.data.toList.take 8))) ∧ w = w' := by
  go_enter Tryd.func39, Tryd.ntmps39
  go_wp2
  go_loop [3, 4] (fun v j => ∃ i X : Nat, i ≤ 8 ∧ j = .int .i64 i ∧ v = .int .u64 X ∧ Hid (X = num (s.data.toList.take i)) ∧ X < 18446744073709551616)
    (fun _ j => 8 - (intOf j).toNat)
  case atStart => exact ⟨0, 0, by omega, rfl, rfl, Lib.hid rfl, by omega⟩
  case round =>
    obtain ⟨i, X, hi, rfl, rfl, HX, hX⟩ := hrel
    by_cases hil : i < 8
    · have his : i < s.size := by omega
      obtain ⟨x, hx⟩ : ∃ x : UInt8, x = s[i] := ⟨_, rfl⟩
      have hxv : byteAt s i = (x.toNat : Int) := by unfold byteAt; rw [dif_pos his, hx]
      have hix := fun w => run_index_byteAt (P := Tryd.prog) (t := 9) rfl s (i : Int) i rfl his w
      rw [hxv] at hix
      have hx256 := x.toNat_lt
      have HT := Lib.hid (show s.data.toList.take (i + 1) = s.data.toList.take i ++ [x] by
        rw [hx, List.take_succ_eq_append_getElem (by simpa using his)]; rfl)
      clear hxv hx
      have i16 : (i : Int) < 8 := by omega
      have i17 : IntKind.i64.wrap ((i : Int) + 1) = (i : Int) + 1 := i64_wrap_in _ (by omega) (by omega)
      obtain ⟨Y, hY⟩ : ∃ Y : Nat, Y = X * 256 % 18446744073709551616 := ⟨_, rfl⟩
      obtain ⟨Z, hZ⟩ : ∃ Z : Nat, Z = (X * 256 + x.toNat) % 18446744073709551616 := ⟨_, rfl⟩
      have w1 : IntKind.u64.wrap ((X : Int) * 256) = (Y : Int) := by rw [IntKind.wrap_u64]; omega
      have w2 : IntKind.u64.wrap ((Y : Int) + (x.toNat : Int)) = (Z : Int) := by rw [IntKind.wrap_u64]; omega
      have w3 : IntKind.u64.wrap (x.toNat : Int) = (x.toNat : Int) := by rw [IntKind.wrap_u64]; omega
      have HZ := Lib.hid hZ
      have hZl : Z < 18446744073709551616 := by omega
      clear hY hZ
      go_wp2
      go_round
      case rel => exact ⟨i + 1, Z, hil, by go_num, by rfl, Lib.hid (by rw [HT.out, num_snoc, ← HX.out]; exact HZ.out), hZl⟩
      case measure => simp [intOf]; omega
    · obtain rfl : i = 8 := by omega
      have hX2 := HX.out
      clear HX
      subst hX2
      go_wp2
      go_ret
      exact ⟨rfl, rfl⟩
theorem vals_more {fk : Int} {turn : Nat} {R : List UInt8 → Option (List UInt8 × List UInt8)} {L cur l r : List UInt8} {acc : List V} {k : Nat} {b : UInt8} {x : V} (HD : decF fk turn R L.length L = (decF fk turn R k cur).map fun vs => acc ++ vs) (hc : cur = b :: l) (hk : cur.length ≤ k)
    (hd : decV turn R (b.toNat - fk) l = some (x, r)) (hr : right x = true) : decF fk turn R L.length L = (decF fk turn R (k - 1) r).map fun vs => (acc ++ [x]) ++ vs := by
  subst hc
  rw [HD, decF_step (by simp) hk (dec1_ok hd hr)]
  cases decF fk turn R (k - 1) r <;> simp
theorem vals_bad {fk : Int} {turn : Nat} {R : List UInt8 → Option (List UInt8 × List UInt8)} {L cur l : List UInt8} {acc : List V} {k : Nat} {b : UInt8} (HD : decF fk turn R L.length L = (decF fk turn R k cur).map fun vs => acc ++ vs) (hc : cur = b :: l)
    (hd : decV turn R (b.toNat - fk) l = none) : vals fk turn R L = none := by
  subst hc
  apply vals_none
  rw [HD, decF_bad (by simp) (dec1_none hd)]
  rfl
theorem vals_bad2 {fk : Int} {turn : Nat} {R : List UInt8 → Option (List UInt8 × List UInt8)} {L cur l r : List UInt8} {acc : List V} {k : Nat} {b : UInt8} {x : V} (HD : decF fk turn R L.length L = (decF fk turn R k cur).map fun vs => acc ++ vs) (hc : cur = b :: l) (hk : cur.length ≤ k)
    (hd : decV turn R (b.toNat - fk) l = some (x, r)) (ht : tuple acc = true) (h2 : tuple (acc ++ [x]) = false) : vals fk turn R L = none := by
  cases hr : right x with
  | false =>
    subst hc
    apply vals_none
    rw [HD, decF_bad (by simp) (dec1_bad hd hr)]
    rfl
  | true =>
    have h := vals_more HD hc hk hd hr
    unfold vals
    rw [h]
    cases decF fk turn R (k - 1) r with
    | none => rfl
    | some vs =>
      simp only [Option.map_some]
      unfold tuple at ht h2
      simp only [Bool.and_eq_true, decide_eq_true_eq] at ht
      rw [List.all_append, ht.2, List.length_append] at h2
      simp only [List.all_cons, List.all_nil, hr, Bool.and_true] at h2
      have h3 := of_decide_eq_false h2
      rw [if_neg (by simp only [List.length_append] at h3 ⊢; omega)]
theorem tuple_last {acc : List V} {x : V} (h : tuple (acc ++ [x]) = true) : right x = true ∧ acc.length + 1 ≤ 64 := by
  unfold tuple at h
  simp only [Bool.and_eq_true, decide_eq_true_eq, List.all_append, List.length_append] at h
  exact ⟨by simpa using h.2.2, by simpa using h.1⟩
theorem vals_done {fk : Int} {turn : Nat} {R : List UInt8 → Option (List UInt8 × List UInt8)} {L cur : List UInt8} {acc : List V} {k : Nat} (HD : decF fk turn R L.length L = (decF fk turn R k cur).map fun vs => acc ++ vs) (hc : cur = []) (hl : acc.length ≤ 64) : vals fk turn R L = some acc := by
  subst hc
  have e : decF fk turn R k [] = some [] := by cases k <;> rfl
  rw [e] at HD
  simp only [Option.map_some, List.append_nil] at HD
  unfold vals
  rw [HD]
  dsimp only
  rw [if_pos hl]
/-- A string's length. -/
def strSize : Value → Nat
  | .string s => s.size
  | _ => 0
theorem str_first (s : ByteArray) (h : 0 < s.size) : ∃ (b : UInt8) (q : ByteArray), s.data.toList = b :: q.data.toList ∧ q = s.extract 1 s.size ∧ q.size + 1 = s.size ∧ b = s[0] := by
  refine ⟨s[0], s.extract 1 s.size, ?_, rfl, ?_, rfl⟩
  · rw [Lib.extract_to_end]
    have hl1 : 0 < s.data.toList.length := h
    have e : s.data.toList = s.data.toList[0]'hl1 :: s.data.toList.drop 1 := by rw [← List.drop_eq_getElem_cons hl1, List.drop_zero]
    exact e
  · simp; omega
theorem index_first {P : Program} {t : TypeId} (hu : P.underlying t = some .string) (s : ByteArray) (b : UInt8) (h : 0 < s.size) (hb : b = s[0]) (w : World) :
    (Instr.index t (.string s) (.int .i64 0)).run P w = .ok (.int .u8 (b.toNat : Int)) w := by
  have := run_index_byteAt (P := P) hu s 0 0 rfl h w
  rw [this]
  unfold byteAt
  rw [dif_pos h, hb]
end Go.Proofs.YtgfjfpghjjknlaaDoor
