/-
  The walk of the reference's Show.
-/
import Derived.Test.YtgfjfpghjjknlaaDoorClG
import Derived.Test.YtgfjfpghjjknlaaDoorClD
namespace Go.Proofs.YtgfjfpghjjknlaaDoor
open Go.RowKit Cl
set_option maxRecDepth 100000
set_option linter.unusedVariables false
set_option linter.unusedSimpArgs false
theorem quote_snoc (l : List UInt8) (b : UInt8) : quote (l ++ [b]) = quote l ++ (if b = 39 then [39, 39] else [b]) := by unfold quote; rw [List.flatMap_append]; simp
set_option maxHeartbeats 4000000 in
theorem rshow_any (v : V) (w : World) (hn : In64 v.n) : Calls Tryd.prog 13 #[.agg #[.int .i64 v.k, .int .i64 v.n, .string v.s]] w fun e w' => e = .returned (.string (showS v)) ∧ Below w.heap.size w w' := by
  have hb1 := (Below.refl w.heap.size w).alloc (Nat.le_refl _) (.cells #[.int .i64 v.k, .int .i64 v.n, .string v.s] 23)
  have hv1 : VAt (w.alloc (.cells #[.int .i64 v.k, .int .i64 v.n, .string v.s] 23)) w.heap.size v := heap_alloc_new w _
  have hrt := rright_any v (w.alloc (.cells #[.int .i64 v.k, .int .i64 v.n, .string v.s] 23))
  obtain ⟨sh, hsh0⟩ : ∃ sh, sh = showS v := ⟨_, rfl⟩
  rw [← hsh0]
  have HSH := Lib.hid hsh0
  clear hsh0
  go_enter Tryd.func13, Tryd.ntmps13
  go_wp2_with (fail)
  go_at_call 11
  with_reducible refine hrt.mono ?_
  rintro e w1 ⟨rfl, hb⟩
  have hv := hv1.below hb
  have hB := hb1.trans (hb.mono hb1.size)
  have hwl : w.heap.size < w1.heap.size := hv.lt
  clear hrt hv1 hb hb1
  cases hr : right v
  · have hsh : sh = ⟨#[63]⟩ := by
      rw [HSH.out]
      unfold showS showV; rw [if_pos hr]
    subst hsh
    go_wp2
    go_ret
    exact ⟨rfl, hB⟩
  · rcases Sh.right_cases hr with h | h | h | h | ⟨h, hs⟩ | ⟨h, hs⟩
    · have hsh : sh = ⟨#[78, 85, 76, 76]⟩ := by rw [HSH.out]; unfold showS; rw [h, Sh.show0]
      rw [h] at hv
      obtain ⟨v0, v1, v2⟩ := hv.cells
      dsimp only at v0 v1 v2
      clear h
      subst hsh
      go_wp2
      go_ret
      exact ⟨rfl, hB⟩
    · have hsh : sh = ⟨(Lib.itoa v.n).toArray⟩ := by rw [HSH.out]; unfold showS; rw [h, Sh.show1]
      rw [h] at hv
      obtain ⟨v0, v1, v2⟩ := hv.cells
      dsimp only at v0 v1 v2
      clear h
      subst hsh
      go_wp2_with (fail)
      go_at_call 31
      refine (rdigits_any v.n hn _).mono ?_
      rintro e w2 ⟨rfl, hb2⟩
      go_wp2
      go_ret
      exact ⟨rfl, hB.trans (hb2.mono hB.size)⟩
    · have hsh : sh = ⟨#[70, 65, 76, 83, 69]⟩ := by rw [HSH.out]; unfold showS; rw [h, Sh.show2f]
      rw [h] at hv
      obtain ⟨v0, v1, v2⟩ := hv.cells
      dsimp only at v0 v1 v2
      clear h
      subst hsh
      go_wp2
      go_ret
      exact ⟨rfl, hB⟩
    · have hsh : sh = ⟨#[84, 82, 85, 69]⟩ := by rw [HSH.out]; unfold showS; rw [h, Sh.show2t]
      rw [h] at hv
      obtain ⟨v0, v1, v2⟩ := hv.cells
      dsimp only at v0 v1 v2
      clear h
      subst hsh
      go_wp2
      go_ret
      exact ⟨rfl, hB⟩
    · have hsh : showS v = ⟨(39 :: (quote v.s.data.toList ++ [39])).toArray⟩ := by unfold showS; rw [h, Sh.show3 _ hs]
      have HS2 := Lib.hid (HSH.out.trans hsh)
      clear hsh
      rw [h] at hv
      obtain ⟨v0, v1, v2⟩ := hv.cells
      dsimp only at v0 v1 v2
      clear h
      generalize v.s = s at hv v0 v1 v2 hs HS2
      have hsl : s.data.toList.length = s.size := rfl
      go_wp2
      go_loopw [3, 4] (fun z j wr => ∃ (i : Nat) (c : ByteArray), i ≤ s.size ∧ j = .int .i64 i ∧ z = .string c ∧ Hid (c.data.toList = 39 :: quote (s.data.toList.take i)) ∧ c.size ≤ 2 * i + 1 ∧ Below w1.heap.size w1 wr)
        (fun _ j _ => s.size - (intOf j).toNat)
      case atStart => exact ⟨0, ⟨#[39]⟩, by omega, rfl, rfl, Lib.hid rfl, by decide, Below.refl _ _⟩
      case round =>
        obtain ⟨i, c, hi, rfl, rfl, HC, hcz, hB2⟩ := hrel
        have hvr := hv.below hB2
        obtain ⟨z0, z1, z2⟩ := hvr.cells
        dsimp only at z0 z1 z2
        by_cases hil : i < s.size
        · obtain ⟨x, hx⟩ : ∃ x : UInt8, x = s[i] := ⟨_, rfl⟩
          have hxv : byteAt s i = (x.toNat : Int) := by unfold byteAt; rw [dif_pos hil, hx]
          have hix := fun w => run_index_byteAt (P := Tryd.prog) (t := 9) rfl s (i : Int) i rfl hil w
          rw [hxv] at hix
          have HT := Lib.hid (show s.data.toList.take (i + 1) = s.data.toList.take i ++ [x] by
            rw [hx, List.take_succ_eq_append_getElem (by simpa using hil)]; rfl)
          obtain ⟨p, hp⟩ : ∃ p : ByteArray, p = s.extract i (i + 1) := ⟨_, rfl⟩
          have hpl : p.data.toList = [x] := by
            rw [hp, Lib.extract_data]
            show (s.data.toList.drop i).take (i + 1 - i) = [x]
            rw [show i + 1 - i = 1 by omega, hx, List.drop_eq_getElem_cons (by rw [hsl]; exact hil)]
            rfl
          have hpz : p.size = 1 := by have e : p.data.toList.length = p.size := rfl; rw [hpl] at e; exact e.symm
          have HP := Lib.hid hpl
          have i1 : IntKind.i64.wrap ((i : Int) + 1) = (i : Int) + 1 := i64_wrap_in _ (by omega) (by omega)
          have i16 : (i : Int) < s.size := by omega
          have i17 : (i : Int) + 1 ≤ s.size := by omega
          have hsl17 : ∀ w : World, (Instr.slice 9 (.string s) (some (.int .i64 (i : Int))) (some (.int .i64 ((i : Int) + 1))) none).run Tryd.prog w = .ok (.string p) w := by
            intro w
            have h := run_slice_string (P := Tryd.prog) w 9 s .i64 .i64 (i : Int) ((i : Int) + 1) Tryd.underlying9 (by omega) (by omega) (by omega)
            rw [hp]
            simpa using h
          have hcp : (c ++ p).size = c.size + 1 := by rw [ByteArray.size_append, hpz]
          have hcq : ((c ++ p) ++ (⟨#[39]⟩ : ByteArray)).size = c.size + 2 := by rw [ByteArray.size_append, hcp]; rfl
          clear hx hxv hpl hp
          by_cases hq : x.toNat = 39
          · have hqi : (x.toNat : Int) = 39 := by omega
            go_wp2
            refine ⟨?_, by simp [intOf]; omega⟩
            refine ⟨i + 1, (c ++ p) ++ (⟨#[39]⟩ : ByteArray), by omega, by simp, rfl, Lib.hid ?_, by omega, hB2⟩
            have h39 : x = 39 := UInt8.toNat_inj.1 (by rw [hq]; rfl)
            rw [HT.out, quote_snoc, if_pos h39]
            simp [HC.out, HP.out, h39]
          · have hqi : ¬ (x.toNat : Int) = 39 := by omega
            go_wp2
            refine ⟨?_, by simp [intOf]; omega⟩
            refine ⟨i + 1, c ++ p, by omega, by simp, rfl, Lib.hid ?_, by omega, hB2⟩
            have h39 : x ≠ 39 := fun h => hq (by rw [h]; rfl)
            rw [HT.out, quote_snoc, if_neg h39]
            simp [HC.out, HP.out]
        · obtain rfl : i = s.size := by omega
          have hall : s.data.toList.take s.size = s.data.toList := List.take_of_length_le (Nat.le_refl _)
          rw [hall] at HC
          have hfin : c ++ (⟨#[39]⟩ : ByteArray) = sh := by
            rw [HS2.out]
            refine ByteArray.ext (Array.ext' ?_)
            simp [HC.out]
          have HF := Lib.hid hfin
          clear hfin
          go_wp2
          go_ret
          exact ⟨by rw [← HF.out]; rfl, hB.trans (hB2.mono hB.size)⟩
    · have hsh : showS v = ⟨(120 :: 39 :: (Hx.hex v.s.data.toList ++ [39])).toArray⟩ := by unfold showS; rw [h, Sh.show4 _ hs]
      have HS2 := Lib.hid (HSH.out.trans hsh)
      clear hsh
      rw [h] at hv
      obtain ⟨v0, v1, v2⟩ := hv.cells
      dsimp only at v0 v1 v2
      clear h
      generalize v.s = s at hv v0 v1 v2 hs HS2
      have hsl : s.data.toList.length = s.size := rfl
      have hhx := rhex_any s
      obtain ⟨z, hzz⟩ : ∃ z : ByteArray, z = Hx.str s := ⟨_, rfl⟩
      have hzs : z.size = 2 * s.size := by rw [hzz]; show (Hx.hex s.data.toList).toArray.size = _; rw [List.size_toArray, Hx.hex_length, hsl]
      rw [← hzz] at hhx
      have hfin : (⟨#[120, 39]⟩ : ByteArray) ++ z ++ (⟨#[39]⟩ : ByteArray) = sh := by
        rw [HS2.out, hzz]
        refine ByteArray.ext (Array.ext' ?_)
        simp [Hx.str]
      have HF := Lib.hid hfin
      clear hfin hzz
      go_wp2_with (fail)
      go_at_call 32
      refine (hhx _ (by omega)).mono ?_
      rintro e w2 ⟨rfl, hb2⟩
      go_wp2
      go_ret
      exact ⟨by rw [← HF.out]; rfl, hB.trans (hb2.mono hB.size)⟩
end Go.Proofs.YtgfjfpghjjknlaaDoor
