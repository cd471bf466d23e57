/-
  A string behind a pointer; the walks of cut, number, whole and of the plain form's two.
-/
import Derived.Test.YtgfjfpghjjknlaaDoorCl0
import Derived.Lib.Builder
import Derived.Lib.ConvBytes
namespace Go.Proofs.YtgfjfpghjjknlaaDoor
open Go.RowKit Cl
set_option maxRecDepth 100000
set_option linter.unusedVariables false
set_option linter.unusedSimpArgs false
/-- A string's block. -/
def PS (w : World) (g : Nat) (s : ByteArray) : Prop := w.heap[g]? = some (.cells #[.string s] 9 (0, 0))
theorem PS.c0 {w : World} {g : Nat} {s : ByteArray} (h : PS w g s) : w.cell? ⟨g, 0, none⟩ = some (.string s) := by rw [Lib.cell_of_heap h]; rfl
theorem PS.lt {w : World} {g : Nat} {s : ByteArray} (h : PS w g s) : g < w.heap.size := (Array.getElem?_eq_some_iff.1 h).1
theorem PS.free {w : World} {g : Nat} {s : ByteArray} (h : PS w g s) : w.frozen? ⟨g, 0, none⟩ = false := Lib.frozen_of_heap h 0
theorem PS.set {w : World} {g : Nat} {s : ByteArray} (h : PS w g s) (t : ByteArray) : PS (w.setCell ⟨g, 0, none⟩ (.string t)) g t := by
  unfold PS at *
  simp [World.setCell, Array.getElem?_modify, h]
theorem i64_wrap_in (x : Int) (h0 : -9223372036854775808 ≤ x) (h1 : x ≤ 9223372036854775807) : IntKind.i64.wrap x = x := by rw [IntKind.wrap_i64]; omega
theorem cut_short (g n : Nat) (s : ByteArray) (w : World) (h : PS w g s) (hs : s.size ≤ 140737488351232) (hn : s.size < n) :
    Calls Tryd.prog 63 #[.pointer (some ⟨g, 0, none⟩), .int .i64 n] w fun e w' => e = .returned (.tuple #[.string ⟨#[]⟩, .bool false]) ∧ w' = w := by
  have c0 := h.c0
  have n2 : (s.size : Int) < n := by omega
  go_enter Tryd.func63, Tryd.ntmps63
  go_wp2
  exact bodyPost_ret (v := .tuple #[.string ⟨#[]⟩, .bool false]) (by simp [results, Tryd.results63, go_sem]) rfl ⟨rfl, rfl⟩
theorem cut_any (g n : Nat) (s : ByteArray) (w : World) (h : PS w g s) (hs : s.size ≤ 140737488351232) (hn : n ≤ s.size) :
    Calls Tryd.prog 63 #[.pointer (some ⟨g, 0, none⟩), .int .i64 n] w fun e w' => e = .returned (.tuple #[.string (s.extract 0 n), .bool true]) ∧ w' = w.setCell ⟨g, 0, none⟩ (.string (s.extract n s.size)) := by
  have c0 := h.c0
  have f0 := h.free
  have n2 : ¬ (s.size : Int) < n := by omega
  have n3 : (n : Int) ≤ s.size := by omega
  go_enter Tryd.func63, Tryd.ntmps63
  go_wp2
  exact bodyPost_ret (v := .tuple #[.string (s.extract 0 n), .bool true]) (by simp [results, Tryd.results63, go_sem]) rfl ⟨rfl, rfl⟩
/-- The number of bytes, the first one the greatest. -/
def num (l : List UInt8) : Nat := l.foldl (fun x b => (x * 256 + b.toNat) % 18446744073709551616) 0
theorem num_snoc (l : List UInt8) (b : UInt8) : num (l ++ [b]) = (num l * 256 + b.toNat) % 18446744073709551616 := by unfold num; rw [List.foldl_append]; rfl
theorem num_lt (l : List UInt8) : num l < 18446744073709551616 := by
  rcases List.eq_nil_or_concat l with rfl | ⟨r, b, rfl⟩
  · decide
  · rw [List.concat_eq_append, num_snoc]; omega
def byteAt (b : ByteArray) (i : Nat) : Int := if h : i < b.size then ((b[i]'h).toNat : Int) else 0
theorem run_index_byteAt {P : Program} {t : TypeId} (hu : P.underlying t = some .string) (b : ByteArray) (x : Int) (i : Nat) (hx : x = i) (h : i < b.size) (w : World) :
    (Instr.index t (.string b) (.int .i64 x)).run P w = .ok (.int .u8 (byteAt b i)) w := by
  subst hx
  simp [run_index_string (P := P) w t b .i64 i hu, byteAt, h]
theorem wrap_u64 (b : BitVec 64) : IntKind.u64.wrap (b.toNat : Int) = (b.toNat : Int) := by
  rw [IntKind.wrap_u64]
  have := b.isLt
  omega
theorem or_byte (X : Nat) (b : Nat) (hb : b < 256) : Go.bits .or .u64 (IntKind.u64.wrap ((X : Int) * 256)) (b : Int) = (((X * 256 + b) % 18446744073709551616 : Nat) : Int) := by
  have h1 : Go.bits .or .u64 (IntKind.u64.wrap ((X : Int) * 256)) (b : Int) = ((BitVec.ofInt 64 (IntKind.u64.wrap ((X : Int) * 256)) ||| BitVec.ofInt 64 (b : Int)).toNat : Int) := wrap_u64 _
  have h2 : IntKind.u64.wrap ((X : Int) * 256) = ((X * 256 % 18446744073709551616 : Nat) : Int) := by
    rw [IntKind.wrap_u64]
    omega
  rw [h1, h2, BitVec.ofInt_natCast, BitVec.ofInt_natCast, BitVec.toNat_or, BitVec.toNat_ofNat, BitVec.toNat_ofNat]
  have h3 : X * 256 % 18446744073709551616 = (X % 72057594037927936) <<< 8 := by rw [Nat.shiftLeft_eq]; omega
  have h4 : b % 2 ^ 64 = b := by omega
  rw [h4, Nat.mod_eq_of_lt (a := X * 256 % 18446744073709551616) (by omega), h3, ← Nat.shiftLeft_add_eq_or_of_lt (by omega), Nat.shiftLeft_eq]
  congr 1
  omega
theorem number_any (s : ByteArray) (w : World) (hs : s.size ≤ 140737488351232) :
    Calls Tryd.prog 64 #[.string s] w fun e w' => e = .returned (.int .u64 (num s.data.toList)) ∧ w = w' := by
  go_enter Tryd.func64, Tryd.ntmps64
  go_wp2
  go_loop [3, 7] (fun v j => ∃ i X : Nat, i ≤ s.size ∧ j = .int .i64 i ∧ v = .int .u64 X ∧ Hid (X = num (s.data.toList.take i)) ∧ X < 18446744073709551616)
    (fun _ j => s.size - (intOf j).toNat)
  case atStart => exact ⟨0, 0, by omega, rfl, rfl, Lib.hid rfl, by omega⟩
  case round =>
    obtain ⟨i, X, hi, rfl, rfl, HX, hX⟩ := hrel
    by_cases hil : i < s.size
    · obtain ⟨x, hx⟩ : ∃ x : UInt8, x = s[i] := ⟨_, rfl⟩
      have hxv : byteAt s i = (x.toNat : Int) := by unfold byteAt; rw [dif_pos hil, hx]
      have hix := fun w => run_index_byteAt (P := Tryd.prog) (t := 9) rfl s (i : Int) i rfl hil w
      rw [hxv] at hix
      have hx256 := x.toNat_lt
      have HT := Lib.hid (show s.data.toList.take (i + 1) = s.data.toList.take i ++ [x] by
        rw [hx, List.take_succ_eq_append_getElem (by simpa using hil)]; rfl)
      clear hxv hx
      have i16 : (i : Int) < s.size := by omega
      have hor := or_byte X x.toNat hx256
      go_wp2
      go_round
      case rel => exact ⟨i + 1, (X * 256 + x.toNat) % 18446744073709551616, hil, by go_num, by rfl, Lib.hid (by rw [HT.out, num_snoc, ← HX.out]), by omega⟩
      case measure => simp [intOf]; omega
    · obtain rfl : i = s.size := by omega
      have hall : s.data.toList.take s.size = s.data.toList := List.take_of_length_le (Nat.le_refl _)
      rw [hall] at HX
      have hX2 := HX.out
      clear HX
      subst hX2
      go_wp2
      go_ret
      exact ⟨rfl, rfl⟩
/-- A number's eight bytes. -/
def b8 (x j : Nat) : Nat := x / 256 ^ (7 - j) % 256
def eight (x : Nat) : List Int := (List.range 8).map fun j => (b8 x j : Int)
def eightTo (x i : Nat) : Array Value := ((List.range 8).map fun j => Value.int .u8 (if j < i then (b8 x j : Int) else 0)).toArray
theorem eightTo_set (x k : Nat) (hk : k < 8) : (eightTo x k).setIfInBounds k (.int .u8 (b8 x k : Nat)) = eightTo x (k + 1) := by
  obtain rfl | rfl | rfl | rfl | rfl | rfl | rfl | rfl : k = 0 ∨ k = 1 ∨ k = 2 ∨ k = 3 ∨ k = 4 ∨ k = 5 ∨ k = 6 ∨ k = 7 := by omega
  all_goals rfl
theorem eight_at (x i : Nat) (hi : i < 8) : (eightTo x 8)[0 + i]? = some (.int .u8 ((eight x).getD i 0)) := by
  obtain rfl | rfl | rfl | rfl | rfl | rfl | rfl | rfl : i = 0 ∨ i = 1 ∨ i = 2 ∨ i = 3 ∨ i = 4 ∨ i = 5 ∨ i = 6 ∨ i = 7 := by omega
  all_goals rfl
set_option maxHeartbeats 4000000 in
theorem whole_any (x : Nat) (hx : x < 18446744073709551616) (w : World) :
    Calls Tryd.prog 60 #[.int .u64 x] w fun e w' => e = .returned (.string (strOfNums (eight x))) ∧ Below w.heap.size w w' := by
  go_enter Tryd.func60, Tryd.ntmps60
  go_wp2
  go_loopw [5] (fun v wr => ∃ i : Nat, i ≤ 8 ∧ v = .int .i64 i ∧ wr.heap[w.heap.size]? = some (.cells (eightTo x i) 96 (0, 0)) ∧ Below w.heap.size w wr)
    (fun v _ => 8 - (intOf v).toNat)
  case atStart => exact ⟨0, by omega, rfl, heap_alloc_new w _, (Below.refl _ _).alloc (Nat.le_refl _) _⟩
  case round =>
    obtain ⟨i, hi, rfl, hh, hB⟩ := hrel
    have hc := fun j => Lib.frozen_of_heap hh j
    by_cases h8 : i < 8
    · have hcl : wr.cell? ⟨w.heap.size, i, none⟩ = some (.int .u8 0) := by
        rw [Lib.cell_of_heap hh]
        simp [eightTo, h8]
      obtain ⟨y, hy⟩ : ∃ y : Int, y = ((b8 x i : Nat) : Int) := ⟨_, rfl⟩
      have hset : (wr.setCell ⟨w.heap.size, i, none⟩ (.int .u8 y)).heap[w.heap.size]? = some (.cells (eightTo x (i + 1)) 96 (0, 0)) := by
        simp [World.setCell, Array.getElem?_modify, hh, hy]
        exact eightTo_set x i h8
      have hB1 := hB.setCell (p := ⟨w.heap.size, i, none⟩) (Nat.le_refl _) (.int .u8 y)
      unfold b8 at hy
      obtain rfl | rfl | rfl | rfl | rfl | rfl | rfl | rfl : i = 0 ∨ i = 1 ∨ i = 2 ∨ i = 3 ∨ i = 4 ∨ i = 5 ∨ i = 6 ∨ i = 7 := by omega
      · have hyk : (x : Int) / 72057594037927936 = y := by rw [hy]; omega
        clear hy hi h8
        go_wp2
        go_roundw
        case rel => exact ⟨1, by omega, by go_num, hset, hB1⟩
        case measure => simp [intOf]
      · have hyk : (x : Int) / 281474976710656 % 256 = y := by rw [hy]; omega
        clear hy hi h8
        go_wp2
        go_roundw
        case rel => exact ⟨2, by omega, by go_num, hset, hB1⟩
        case measure => simp [intOf]
      · have hyk : (x : Int) / 1099511627776 % 256 = y := by rw [hy]; omega
        clear hy hi h8
        go_wp2
        go_roundw
        case rel => exact ⟨3, by omega, by go_num, hset, hB1⟩
        case measure => simp [intOf]
      · have hyk : (x : Int) / 4294967296 % 256 = y := by rw [hy]; omega
        clear hy hi h8
        go_wp2
        go_roundw
        case rel => exact ⟨4, by omega, by go_num, hset, hB1⟩
        case measure => simp [intOf]
      · have hyk : (x : Int) / 16777216 % 256 = y := by rw [hy]; omega
        clear hy hi h8
        go_wp2
        go_roundw
        case rel => exact ⟨5, by omega, by go_num, hset, hB1⟩
        case measure => simp [intOf]
      · have hyk : (x : Int) / 65536 % 256 = y := by rw [hy]; omega
        clear hy hi h8
        go_wp2
        go_roundw
        case rel => exact ⟨6, by omega, by go_num, hset, hB1⟩
        case measure => simp [intOf]
      · have hyk : (x : Int) / 256 % 256 = y := by rw [hy]; omega
        clear hy hi h8
        go_wp2
        go_roundw
        case rel => exact ⟨7, by omega, by go_num, hset, hB1⟩
        case measure => simp [intOf]
      · have hyk : (x : Int) % 256 = y := by rw [hy]; omega
        clear hy hi h8
        go_wp2
        go_roundw
        case rel => exact ⟨8, by omega, by go_num, hset, hB1⟩
        case measure => simp [intOf]
    · obtain rfl : i = 8 := by omega
      have hst := run_convert_bytes_arg (P := Tryd.prog) wr 50 5 rfl rfl w.heap.size 0 8 8 (eight x) rfl (fun i hi => by
        rw [Lib.cell_of_heap hh]
        exact eight_at x i hi) 9 rfl
      go_wp2
      go_ret
      exact ⟨rfl, hB⟩
theorem plainW_any (s : ByteArray) (w : World) (hs : s.size ≤ 1000) :
    Calls Tryd.prog 61 #[.string s] w fun e w' => e = .returned (.string (strOfNums [(s.size : Int) / 256, (s.size : Int) % 256] ++ s)) ∧ Below w.heap.size w w' := by
  have hst := run_convert_bytes_arg (P := Tryd.prog) (w.alloc (.cells #[.int .u8 ((s.size : Int) / 256), .int .u8 ((s.size : Int) % 256)] 5)) 50 5 rfl rfl w.heap.size 0 2 2 [(s.size : Int) / 256, (s.size : Int) % 256] rfl (fun i hi => by
    rw [Lib.cell_of_heap (heap_alloc_new w _)]
    obtain rfl | rfl : i = 0 ∨ i = 1 := by omega
    all_goals rfl) 9 rfl
  have hb := (Below.refl w.heap.size w).alloc (Nat.le_refl _) (.cells #[.int .u8 ((s.size : Int) / 256), .int .u8 ((s.size : Int) % 256)] 5)
  have hz : (strOfNums [(s.size : Int) / 256, (s.size : Int) % 256]).size = 2 := rfl
  generalize hv : strOfNums [(s.size : Int) / 256, (s.size : Int) % 256] = v at hst hz ⊢
  clear hv
  go_enter Tryd.func61, Tryd.ntmps61
  go_wp2
  go_ret
  exact ⟨rfl, hb⟩
/-- What the plain form reads: two bytes of length, and as many bytes. -/
theorem plainR_none (g : Nat) (s : ByteArray) (w : World) (h : PS w g s) (hs : s.size ≤ 140737488351232) (hn : s.size < 2) :
    Calls Tryd.prog 62 #[.pointer (some ⟨g, 0, none⟩)] w fun e w' => e = .returned (.tuple #[.string ⟨#[]⟩, .bool false]) ∧ w' = w := by
  go_enter Tryd.func62, Tryd.ntmps62
  go_wp2_with (fail)
  go_at_call 63
  refine (cut_short g 2 s w h hs hn).mono ?_
  rintro e w1 ⟨rfl, rfl⟩
  go_wp2
  exact bodyPost_ret (v := .tuple #[.string ⟨#[]⟩, .bool false]) (by simp [results, Tryd.results62, go_sem]) rfl ⟨rfl, rfl⟩
theorem plainR_short (g : Nat) (s t : ByteArray) (n : Nat) (w : World) (h : PS w g s) (hs : s.size ≤ 140737488351232) (hn : 2 ≤ s.size) (ht : t = s.extract 2 s.size) (hv : n = num (s.extract 0 2).data.toList) (hl : t.size < n) (hn2 : n < 65536) :
    Calls Tryd.prog 62 #[.pointer (some ⟨g, 0, none⟩)] w fun e w' => e = .returned (.tuple #[.string ⟨#[]⟩, .bool false]) ∧ w' = w.setCell ⟨g, 0, none⟩ (.string t) := by
  have hz : (s.extract 0 2).size ≤ 140737488351232 := by simp; omega
  have hz2 : t.size ≤ 140737488351232 := by rw [ht]; simp; omega
  have hw : IntKind.i64.wrap (n : Int) = n := i64_wrap_in _ (by omega) (by omega)
  have h1 := h.set t
  have HV := Lib.hid (And.intro ht hv)
  clear ht hv
  go_enter Tryd.func62, Tryd.ntmps62
  go_wp2_with (fail)
  go_at_call 63
  refine (cut_any g 2 s w h hs hn).mono ?_
  rintro e w1 ⟨rfl, rfl⟩
  rw [← HV.out.1]
  go_wp2_with (fail)
  go_at_call 64
  refine (number_any _ _ hz).mono ?_
  rintro e w1 ⟨rfl, rfl⟩
  rw [← HV.out.2]
  go_wp2_with (fail)
  go_at_call 63
  refine (cut_short g n t _ h1 hz2 hl).mono ?_
  rintro e w1 ⟨rfl, rfl⟩
  go_wp2
  exact bodyPost_ret (v := .tuple #[.string ⟨#[]⟩, .bool false]) (by simp [results, Tryd.results62, go_sem]) rfl ⟨rfl, rfl⟩
theorem plainR_any (g : Nat) (s t : ByteArray) (n : Nat) (w : World) (h : PS w g s) (hs : s.size ≤ 140737488351232) (hn : 2 ≤ s.size) (ht : t = s.extract 2 s.size) (hv : n = num (s.extract 0 2).data.toList) (hl : n ≤ t.size) (hn2 : n < 65536) :
    Calls Tryd.prog 62 #[.pointer (some ⟨g, 0, none⟩)] w fun e w' => e = .returned (.tuple #[.string (t.extract 0 n), .bool true]) ∧ w' = (w.setCell ⟨g, 0, none⟩ (.string t)).setCell ⟨g, 0, none⟩ (.string (t.extract n t.size)) := by
  have hz : (s.extract 0 2).size ≤ 140737488351232 := by simp; omega
  have hz2 : t.size ≤ 140737488351232 := by rw [ht]; simp; omega
  have hw : IntKind.i64.wrap (n : Int) = n := i64_wrap_in _ (by omega) (by omega)
  have h1 := h.set t
  have HV := Lib.hid (And.intro ht hv)
  clear ht hv
  go_enter Tryd.func62, Tryd.ntmps62
  go_wp2_with (fail)
  go_at_call 63
  refine (cut_any g 2 s w h hs hn).mono ?_
  rintro e w1 ⟨rfl, rfl⟩
  rw [← HV.out.1]
  go_wp2_with (fail)
  go_at_call 64
  refine (number_any _ _ hz).mono ?_
  rintro e w1 ⟨rfl, rfl⟩
  rw [← HV.out.2]
  go_wp2_with (fail)
  go_at_call 63
  refine (cut_any g n t _ h1 hz2 hl).mono ?_
  rintro e w1 ⟨rfl, rfl⟩
  go_wp2
  exact bodyPost_ret (v := .tuple #[.string (t.extract 0 n), .bool true]) (by simp [results, Tryd.results62, go_sem]) rfl ⟨rfl, rfl⟩
end Go.Proofs.YtgfjfpghjjknlaaDoor
