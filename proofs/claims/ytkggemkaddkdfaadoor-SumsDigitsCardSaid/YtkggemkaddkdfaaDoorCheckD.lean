/-
  The walk of the program's check sums.
-/
import Derived.Test.YtkggemkaddkdfaaDoorCrc
import Derived.Test.YtkggemkaddkdfaaDoorSha4
import Derived.Test.YtkggemkaddkdfaaDoorPrint
namespace Go.Proofs.YtkggemkaddkdfaaDoor
open Go.RowKit
set_option maxRecDepth 100000
set_option linter.unusedVariables false
set_option linter.unusedSimpArgs false
/-- A word as a number of Go. -/
def uv (v : BitVec 32) : Int := (v.toNat : Int)
theorem uv_range (v : BitVec 32) : 0 ≤ uv v ∧ uv v ≤ 4294967295 := by have := v.isLt; unfold uv; omega
theorem uv_xor (a b : BitVec 32) : Go.bits .xor .u32 (uv a) (uv b) = uv (a ^^^ b) := by
  unfold uv; rw [Sha.bits_xor, Sha.bv_toNat, Sha.bv_toNat]
theorem uv_and (a b : BitVec 32) : Go.bits .and .u32 (uv a) (uv b) = uv (a &&& b) := by
  unfold uv; rw [Sha.bits_and, Sha.bv_toNat, Sha.bv_toNat]
theorem uv_half (a : BitVec 32) : uv a / (2 : Int) = uv (a >>> 1) := by
  unfold uv; rw [BitVec.toNat_ushiftRight, Nat.shiftRight_eq_div_pow]; omega
theorem uv_lsb (a : BitVec 32) : uv a % (2 : Int) = if a.getLsbD 0 then 1 else 0 := by
  unfold uv
  rw [BitVec.getLsbD, Nat.testBit_zero]
  by_cases h : a.toNat % 2 = 1
  · simp [h]; omega
  · simp [h]; omega
theorem uv_byte (b : UInt8) : (b.toNat : Int) = uv (Crc.ofByte b) := by
  unfold uv Crc.ofByte
  have := b.toNat_lt
  rw [BitVec.toNat_ofNat, Nat.mod_eq_of_lt (by omega)]
def tbl (k : Nat) : List Int := (List.range 16).map fun i => if i < k then uv (Crc.tab i) else 0
theorem uv_step (U : BitVec 32) : Go.bits .xor .u32 (uv U / (2 : Int)) (Go.bits .and .u32 3988292384 (-Go.bits .and .u32 (uv U) 1 % (4294967296 : Int))) = uv (Crc.step U) := by
  have h1 : Go.bits .and .u32 (uv U) 1 = uv U % (2 : Int) := by
    rw [show (1 : Int) = uv 1#32 from rfl, uv_and]
    unfold uv
    rw [BitVec.toNat_and, show (1#32).toNat = 1 from rfl, Nat.and_one_is_mod]
    omega
  rw [h1, uv_lsb, uv_half, show (3988292384 : Int) = uv 0xEDB88320#32 from rfl]
  unfold Crc.step
  cases U.getLsbD 0
  · rw [if_neg (by decide), if_neg (by decide), show (-0 : Int) % 4294967296 = uv 0#32 from rfl, uv_and, uv_xor]
    simp
  · rw [if_pos rfl, if_pos rfl, show (-1 : Int) % 4294967296 = uv (BitVec.allOnes 32) from rfl, uv_and, uv_xor]
    simp
theorem uv_of (k : Nat) (h : k < 4294967296) : (k : Int) = uv (BitVec.ofNat 32 k) := by
  unfold uv; rw [BitVec.toNat_ofNat, Nat.mod_eq_of_lt (by omega)]
theorem uv_sixteenth (a : BitVec 32) : uv a / (16 : Int) = uv (a >>> 4) := by
  unfold uv; rw [BitVec.toNat_ushiftRight, Nat.shiftRight_eq_div_pow]; omega
theorem uv_low (a : BitVec 32) : Go.bits .and .u32 (uv a) 15 = ((a.toNat % 16 : Nat) : Int) := by
  rw [show (15 : Int) = uv 15#32 from rfl, uv_and]
  unfold uv
  rw [BitVec.toNat_and, show (15#32).toNat = 2 ^ 4 - 1 from rfl, Nat.and_two_pow_sub_one_eq_mod]
theorem uv_nib (a : BitVec 32) : Go.bits .xor .u32 (uv a / (16 : Int)) (uv (Crc.tab (a.toNat % 16))) = uv (Crc.nib a) := by
  rw [uv_sixteenth, uv_xor]; rfl
theorem tbl_length (k : Nat) : (tbl k).length = 16 := by simp [tbl]
theorem tbl_set (k : Nat) (h : k < 16) : (tbl k).set k (uv (Crc.tab k)) = tbl (k + 1) := by
  apply List.ext_getElem
  · simp [tbl]
  · intro i h1 h2
    simp only [tbl, List.length_map, List.length_range] at h2
    rw [List.getElem_set]
    simp only [tbl, List.getElem_map, List.getElem_range]
    by_cases hk : k = i
    · subst hk; simp
    · rw [if_neg hk]
      by_cases hi : i < k
      · rw [if_pos hi, if_pos (by omega)]
      · rw [if_neg hi, if_neg (by omega)]
theorem tbl_get (i : Nat) (h : i < 16) : (tbl 16).getD i 0 = uv (Crc.tab i) := by
  have hl : i < (tbl 16).length := by rw [tbl_length]; exact h
  rw [List.getD_eq_getElem?_getD, List.getElem?_eq_getElem hl]
  simp [tbl, h]
set_option maxHeartbeats 1000000 in
theorem check_any (s : ByteArray) (w : World) (hs : s.size ≤ 140737488351232) :
    Calls Tryd.prog 10 #[.string s] w fun e w' => e = .returned (.int .u32 (uv (Crc.crc s.data.toList))) ∧ Below w.heap.size w w' := by
  go_enter Tryd.func10, Tryd.ntmps10
  go_wp2
  go_loopw [8] (fun v wr => ∃ k : Nat, k ≤ 16 ∧ v = .int .i64 k ∧ Blk .u32 46 wr w.heap.size (tbl k) ∧ Below w.heap.size w wr)
    (fun v _ => 16 - (intOf v).toNat)
  case atStart => exact ⟨0, by omega, rfl, Blk.new w .u32 46 (tbl 0), (Below.refl _ _).alloc (Nat.le_refl _) _⟩
  case round =>
    obtain ⟨k, hk, rfl, hb, hB⟩ := hrel
    by_cases hk16 : k < 16
    · obtain ⟨wo, rfl⟩ : ∃ wo : World, wo = wr := ⟨_, rfl⟩
      go_wp2
      go_loop [5, 13] (fun v j => ∃ (m : Nat) (U : BitVec 32), m ≤ 4 ∧ j = .int .i64 m ∧ v = .int .u32 (uv U) ∧ Hid (Crc.steps m (BitVec.ofNat 32 k) = U))
        (fun _ j => 4 - (intOf j).toNat)
      case atStart => exact ⟨0, BitVec.ofNat 32 k, by omega, rfl, by rw [← uv_of k (by omega)], Lib.hid rfl⟩
      case round =>
        obtain ⟨m, U, hm, rfl, rfl, HU⟩ := hrel
        obtain ⟨r1, r2⟩ := uv_range U
        by_cases hm4 : m < 4
        · go_wp2
          go_roundw
          case rel => exact ⟨m + 1, Crc.step U, by omega, by go_num, by rw [uv_step], Lib.hid (by rw [← HU.out]; rfl)⟩
          case measure => simp [intOf]; omega
        · obtain rfl : m = 4 := by omega
          have hfr := hb.free ⟨w.heap.size, k, none⟩ rfl
          have hcl := hb.cell k (by rw [tbl_length]; omega)
          go_wp2
          go_roundw
          case rel =>
            refine ⟨k + 1, by omega, by go_num, ?_, hB.setCell (p := ⟨w.heap.size, k, none⟩) (Nat.le_refl _) _⟩
            have h1 := hb.set k (uv U)
            rw [← HU.out, show Crc.steps 4 (BitVec.ofNat 32 k) = Crc.tab k from rfl, tbl_set _ hk16] at h1
            rw [← HU.out]
            exact h1
          case measure => simp [intOf]; omega
    · obtain rfl : k = 16 := by omega
      go_wp2
      obtain ⟨wo, rfl⟩ : ∃ wo : World, wo = wr := ⟨_, rfl⟩
      have hcl := fun i (h : i < 16) => hb.cell i (by rw [tbl_length]; exact h)
      have Hcl := Lib.hid hcl
      clear hcl
      go_loop [6, 29] (fun v i => ∃ (k : Nat) (V : BitVec 32), k ≤ s.size ∧ i = .int .i64 k ∧ v = .int .u32 (uv V) ∧ Hid (Crc.go (BitVec.allOnes 32) (s.data.toList.take k) = V))
        (fun _ i => s.size - (intOf i).toNat)
      case atStart => exact ⟨0, BitVec.allOnes 32, by omega, rfl, rfl, Lib.hid rfl⟩
      case round =>
        obtain ⟨k, V, hk, rfl, rfl, HV⟩ := hrel
        by_cases hkl : k < s.size
        · obtain ⟨x, hx⟩ : ∃ x : UInt8, x = s[k] := ⟨_, rfl⟩
          have hxv : Sha.byteAt s k = (x.toNat : Int) := by unfold Sha.byteAt; rw [dif_pos hkl, hx]
          have hix := fun w => run_index_byteAt (P := Tryd.prog) (t := 9) rfl s (k : Int) k rfl hkl w
          rw [hxv] at hix
          have hx256 := x.toNat_lt
          have hts : s.data.toList.take (k + 1) = s.data.toList.take k ++ [x] := by
            rw [hx, List.take_succ_eq_append_getElem (by simpa using hkl)]; rfl
          have HT := Lib.hid hts
          clear hts hxv hx
          obtain ⟨r1, r2⟩ := uv_range V
          obtain ⟨U, hU⟩ : ∃ U, U = V ^^^ Crc.ofByte x := ⟨_, rfl⟩
          obtain ⟨i1, hi1⟩ : ∃ i, i = U.toNat % 16 := ⟨_, rfl⟩
          obtain ⟨U1, hU1⟩ : ∃ U', U' = Crc.nib U := ⟨_, rfl⟩
          obtain ⟨i2, hi2⟩ : ∃ i, i = U1.toNat % 16 := ⟨_, rfl⟩
          obtain ⟨U2, hU2⟩ : ∃ U', U' = Crc.nib U1 := ⟨_, rfl⟩
          obtain ⟨T1, hT1⟩ : ∃ T, T = uv (Crc.tab i1) := ⟨_, rfl⟩
          obtain ⟨T2, hT2⟩ : ∃ T, T = uv (Crc.tab i2) := ⟨_, rfl⟩
          have b1 : i1 < 16 := by omega
          have b2 : i2 < 16 := by omega
          have e1 : Go.bits .xor .u32 (uv V) (x.toNat : Int) = uv U := by rw [uv_byte, uv_xor, hU]
          have e2 : Go.bits .and .u32 (uv U) 15 = (i1 : Int) := by rw [uv_low, hi1]
          have e3 : Go.bits .xor .u32 (uv U / 16) T1 = uv U1 := by rw [hT1, hi1, hU1]; exact uv_nib U
          have e4 : Go.bits .and .u32 (uv U1) 15 = (i2 : Int) := by rw [uv_low, hi2]
          have e5 : Go.bits .xor .u32 (uv U1 / 16) T2 = uv U2 := by rw [hT2, hi2, hU2]; exact uv_nib U1
          have c1 := Hcl.out i1 b1
          have c2 := Hcl.out i2 b2
          rw [tbl_get _ b1, ← hT1] at c1
          rw [tbl_get _ b2, ← hT2] at c2
          have HU2 : Hid (Crc.byte V x = U2) := Lib.hid (by rw [hU2, hU1, hU, Crc.byte_nibs])
          obtain ⟨r3, r4⟩ := uv_range U
          obtain ⟨r5, r6⟩ := uv_range U1
          obtain ⟨d1, d2, d3, d4⟩ : 0 ≤ (i1 : Int) ∧ (i1 : Int) < 16 ∧ 0 ≤ (i2 : Int) ∧ (i2 : Int) < 16 := by omega
          clear hU hi1 hU1 hi2 hU2 hT1 hT2
          go_wp2
          go_round
          case rel =>
            refine ⟨k + 1, U2, hkl, by go_num, rfl, Lib.hid ?_⟩
            rw [HT.out]
            unfold Crc.go
            rw [List.foldl_append]
            have := HV.out
            unfold Crc.go at this
            rw [this, ← HU2.out]
            rfl
          case measure => simp [intOf]; omega
        · obtain rfl : k = s.size := by omega
          obtain ⟨r1, r2⟩ := uv_range V
          go_wp2
          go_ret
          refine ⟨?_, hB⟩
          have hall : s.data.toList.take s.size = s.data.toList := List.take_of_length_le (Nat.le_refl _)
          have h1 := HV.out
          rw [hall] at h1
          rw [show IntKind.u32.max = uv (BitVec.allOnes 32) from rfl, uv_xor]
          unfold Crc.crc
          rw [h1, BitVec.xor_comm, BitVec.xor_allOnes]
          rfl
end Go.Proofs.YtkggemkaddkdfaaDoor
