/-
  The walks of the reference's Hex, Digits and Show.
-/
import Derived.Test.YtgfjfpghjjknlaaDoorClB
import Derived.Deep.AppendLies
import Derived.Deep.RegionHeld3
import Derived.Laws.BytesArg
import Derived.Lib.ItoaLen
namespace Go.Proofs.YtgfjfpghjjknlaaDoor
open Go.RowKit Cl
set_option maxRecDepth 100000
set_option linter.unusedVariables false
set_option linter.unusedSimpArgs false
abbrev hexDigits : ByteArray := ⟨#[48, 49, 50, 51, 52, 53, 54, 55, 56, 57, 97, 98, 99, 100, 101, 102]⟩
theorem ownsRow_string {P : Program} {w : World} {base n : Nat} {e' src dst e : TypeId} {v : Value} {xs : List Int} (hs : P.underlying src = some (.slice e)) (he : P.underlying e = some (.int .u8)) (hd : P.underlying dst = some .string)
    (h : w.ownsRow base e' 1 v n (xs.map (Value.int .u8))) : (convert src dst v).run P w = .ok (.string (strOfNums xs)) w := by
  have hl : xs.length = n := by have := h.1; simpa using this
  rcases h.2 with ⟨rfl, rfl⟩ | ⟨g, cap, cur, rfl, _⟩
  · obtain rfl : xs = [] := List.eq_nil_of_length_eq_zero hl
    exact run_convert_bytes_nil w src e hs he 0 0 dst hd
  · refine run_convert_bytes_arg w src e hs he g 0 n cap xs hl (fun i hi => ?_) dst hd
    have hc := h.cells (g := g) rfl i (.int .u8 (xs.getD i 0)) (by simp [List.getD_eq_getElem?_getD, List.getElem?_eq_getElem (show i < xs.length by omega)])
    have ha : (⟨g, 0, none⟩ : Addr).add i = ⟨g, 0 + i, none⟩ := by unfold Addr.add; split <;> simp_all
    rwa [ha] at hc
theorem run_index_u8 {P : Program} {t : TypeId} (hu : P.underlying t = some .string) (b : ByteArray) (x : Int) (i : Nat) (hx : x = i) (h : i < b.size) (w : World) :
    (Instr.index t (.string b) (.int .u8 x)).run P w = .ok (.int .u8 (byteAt b i)) w := by
  subst hx
  simp [run_index_string (P := P) w t b .u8 i hu, byteAt, h]
theorem digit_at (n : Nat) (h : n < 16) : byteAt hexDigits n = ((Hx.d n).toNat : Int) := by
  have : ∀ n : Fin 16, byteAt hexDigits n.1 = ((Hx.d n.1).toNat : Int) := by decide
  exact this ⟨n, h⟩
theorem str_nums (l : List UInt8) : strOfNums (l.map fun b => (b.toNat : Int)) = ⟨l.toArray⟩ := by
  unfold strOfNums
  congr 1
  congr 1
  rw [List.map_map]
  have : ((fun n : Int => UInt8.ofNat n.toNat) ∘ fun b : UInt8 => (b.toNat : Int)) = id := by
    funext b
    simp
  rw [this, List.map_id]
set_option maxHeartbeats 4000000 in
theorem rhex_any (s : ByteArray) (w : World) (hs : s.size ≤ 70368744177663) :
    Calls Tryd.prog 32 #[.string s] w fun e w' => e = .returned (.string (Hx.str s)) ∧ Below w.heap.size w w' := by
  obtain ⟨i0, hi0, hz0, hz1, hz2⟩ := info_parts (P := Tryd.prog) (e := 5) (z := .int .u8 0) (size := 1) (bytes := 1) (by kernel_rfl)
  go_enter Tryd.func32, Tryd.ntmps32
  go_wp2
  go_loopw [4, 5] (fun v j wr => ∃ i : Nat, i ≤ s.size ∧ j = .int .i64 i ∧ wr.ownsRow w.heap.size 5 1 v (2 * i) (((Hx.hex (s.data.toList.take i)).map fun b => (b.toNat : Int)).map (Value.int .u8)) ∧ Below w.heap.size w wr)
    (fun _ j _ => s.size - (intOf j).toNat)
  case atStart => exact ⟨0, by omega, rfl, ⟨rfl, .inl ⟨rfl, rfl⟩⟩, Below.refl _ _⟩
  case round =>
    obtain ⟨i, hi, rfl, hown, hB⟩ := hrel
    by_cases hil : i < s.size
    · obtain ⟨x, hx⟩ : ∃ x : UInt8, x = s[i] := ⟨_, rfl⟩
      have hxv : byteAt s i = (x.toNat : Int) := by unfold byteAt; rw [dif_pos hil, hx]
      have hix := fun w => run_index_byteAt (P := Tryd.prog) (t := 9) rfl s (i : Int) i rfl hil w
      rw [hxv] at hix
      have hx256 := x.toNat_lt
      have hts : s.data.toList.take (i + 1) = s.data.toList.take i ++ [x] := by
        rw [hx, List.take_succ_eq_append_getElem (by simpa using hil)]; rfl
      have HT := Lib.hid hts
      clear hts hxv hx
      have hn1 : x.toNat / 16 < 16 := by omega
      have hn2 : x.toNat % 16 < 16 := by omega
      have d1 := fun w => run_index_u8 (P := Tryd.prog) (t := 9) rfl hexDigits ((x.toNat : Int) / 16) (x.toNat / 16) (by omega) (by show _ < 16; omega) w
      have d2 := fun w => run_index_u8 (P := Tryd.prog) (t := 9) rfl hexDigits ((x.toNat : Int) % 16) (x.toNat % 16) (by omega) (by show _ < 16; omega) w
      rw [digit_at _ (by omega)] at d1 d2
      have q1 : Int.tdiv (x.toNat : Int) 16 = (x.toNat : Int) / 16 := Int.tdiv_eq_ediv_of_nonneg (by omega)
      have q2 : Int.tmod (x.toNat : Int) 16 = (x.toNat : Int) % 16 := Int.tmod_eq_emod_of_nonneg (by omega)
      have q3 : IntKind.u8.wrap ((x.toNat : Int) / 16) = (x.toNat : Int) / 16 := by rw [IntKind.wrap_u8]; omega
      have q4 : IntKind.u8.wrap ((x.toNat : Int) % 16) = (x.toNat : Int) % 16 := by rw [IntKind.wrap_u8]; omega
      have q5 : (x.toNat : Int) / 16 < 16 := by omega
      have q6 : (x.toNat : Int) % 16 < 16 := by omega
      have q7 : 0 ≤ (x.toNat : Int) / 16 := by omega
      have q8 : 0 ≤ (x.toNat : Int) % 16 := by omega
      have q9 : ((x.toNat : Int) / 16).toNat = x.toNat / 16 := by omega
      have q10 : ((x.toNat : Int) % 16).toNat = x.toNat % 16 := by omega
      unfold hexDigits at d1 d2
      have hBs := hB.size
      have i16 : (i : Int) < s.size := by omega
      generalize HL : ((Hx.hex (s.data.toList.take i)).map fun b => (b.toNat : Int)) = hl at hown
      replace HL := Lib.hid HL
      go_wp2
      go_region_held3 (fun _ => True) (exact trivial)
        (go_loud (refine step_append_lies _ (by rfl) _ _ _ (by rfl) w.heap.size 5 i0 _ 1 1 Tryd.underlying50 hi0 hz0 hz1 hz2 rfl (by omega) u4 (2 * i) _ (by rfl) ((hown.alloc _).drew) ⟨wr.heap.size, 0, none⟩ 2 2 [.int .u8 (Hx.d (x.toNat / 16)).toNat, .int .u8 (Hx.d (x.toNat % 16)).toNat] (by rfl) (by rfl) (World.news_of_block (cs := #[.int .u8 (Hx.d (x.toNat / 16)).toNat, .int .u8 (Hx.d (x.toNat % 16)).toNat]) (t := 5) (fr := (0, 0)) (heap_alloc_new wr _)) (by simp [Value.oneCell']) (by omega) (by unfold maxLen; omega) (by omega) (by simp; omega) (wr.heap.size + 1) (by simp) ?_; intro gg cap w1 hown1 hgrow hat hlt))
      all_goals (
        go_wp2
        go_roundw
        (case rel =>
          refine ⟨i + 1, by omega, by go_num, ?_, ((hB.alloc hB.size _).drew).grown hgrow (Nat.le_trans hB.size (by simp)) (fun k hk => (hown.lt k hk).1)⟩
          rw [show 2 * (i + 1) = 2 * i + 2 by omega, HT.out, Hx.hex_snoc]
          simp only [List.map_append, List.map_cons, List.map_nil]
          rw [HL.out]
          simpa using hown1)
        (case measure => simp [intOf]; omega))
    · obtain rfl : i = s.size := by omega
      have hall : s.data.toList.take s.size = s.data.toList := List.take_of_length_le (Nat.le_refl _)
      rw [hall] at hown
      have hst := ownsRow_string (P := Tryd.prog) (src := 50) (e := 5) (dst := 9) rfl rfl rfl hown
      have hfin : strOfNums ((Hx.hex s.data.toList).map fun b => (b.toNat : Int)) = Hx.str s := by
        exact str_nums _
      rw [hfin] at hst
      go_wp2
      go_ret
      exact ⟨rfl, hB⟩
theorem run_convert_one {P : Program} (wr : World) (src e dst : TypeId) (hs : P.underlying src = some (.slice e)) (he : P.underlying e = some (.int .u8)) (hd : P.underlying dst = some .string) (x : Int) :
    (convert src dst (.slice (some ⟨wr.heap.size, 0, none⟩) 1 1)).run P (wr.alloc (.cells #[.int .u8 x] e)) = .ok (.string (strOfNums [x])) (wr.alloc (.cells #[.int .u8 x] e)) :=
  run_convert_bytes_arg _ src e hs he wr.heap.size 0 1 1 [x] rfl (fun i hi => by
    obtain rfl : i = 0 := by omega
    rw [Lib.cell_of_heap (heap_alloc_new wr _)]
    rfl) dst hd
theorem dec_step {m : Nat} (h : ¬ m < 10) : Lib.decDigits m = Lib.decDigits (m / 10) ++ [UInt8.ofNat (48 + m % 10)] := by rw [Lib.decDigits, dif_neg h]
set_option maxHeartbeats 4000000 in
theorem rdigits_pos (n : Nat) (hn : n ≤ 9223372036854775807) (w : World) : Calls Tryd.prog 31 #[.int .i64 n] w fun e w' => e = .returned (.string ⟨(Lib.decDigits n).toArray⟩) ∧ Below w.heap.size w w' := by
  have n1 : ¬ (n : Int) = -9223372036854775808 := by omega
  have n2 : ¬ (n : Int) < 0 := by omega
  go_enter Tryd.func31, Tryd.ntmps31
  go_wp2
  go_loopw [0, 3] (fun v z wr => ∃ (m : Nat) (c : ByteArray), v = .int .i64 m ∧ z = .string c ∧ Hid (Lib.decDigits n = Lib.decDigits m ++ c.data.toList) ∧ Hid (m * 10 ^ c.size ≤ n ∧ (c.size = 0 ∨ 1 ≤ m)) ∧ m ≤ n ∧ Below w.heap.size w wr)
    (fun v _ _ => (intOf v).toNat)
  case atStart => exact ⟨n, ⟨#[]⟩, rfl, rfl, Lib.hid (by simp), Lib.hid ⟨by show n * 10 ^ 0 ≤ n; omega, .inl rfl⟩, Nat.le_refl _, Below.refl _ _⟩
  case round =>
    obtain ⟨m, c, rfl, rfl, HD, HM, hmn, hB⟩ := hrel
    have hcs : c.size ≤ 20 := by
      obtain ⟨h1, h2⟩ := HM.out
      rcases h2 with h2 | h2
      · omega
      · by_cases h : c.size ≤ 20
        · exact h
        · exfalso
          have h3 : 10 ^ 20 ≤ 10 ^ c.size := Nat.pow_le_pow_right (by decide) (by omega)
          have h4 : 1 * 10 ^ c.size ≤ m * 10 ^ c.size := Nat.mul_le_mul_right _ h2
          have h5 : (10 : Nat) ^ 20 = 100000000000000000000 := by decide
          omega
    have hcv := fun x => run_convert_one (P := Tryd.prog) wr 50 5 9 rfl rfl rfl x
    by_cases h9 : m > 9
    · have h9i : (m : Int) > 9 := by omega
      have q1 : Int.tmod (m : Int) 10 = (m : Int) % 10 := Int.tmod_eq_emod_of_nonneg (by omega)
      have q2 : Int.tdiv (m : Int) 10 = ((m / 10 : Nat) : Int) := by rw [Int.tdiv_eq_ediv_of_nonneg (by omega)]; omega
      have q3 : IntKind.i64.wrap (48 + (m : Int) % 10) = 48 + (m : Int) % 10 := i64_wrap_in _ (by omega) (by omega)
      obtain ⟨d, hd⟩ : ∃ d : UInt8, d = UInt8.ofNat (48 + m % 10) := ⟨_, rfl⟩
      have q4 : IntKind.u8.wrap (48 + (m : Int) % 10) = (d.toNat : Int) := by rw [hd, IntKind.wrap_u8, UInt8.toNat_ofNat']; omega
      have q5 : IntKind.i64.wrap ((m / 10 : Nat) : Int) = ((m / 10 : Nat) : Int) := i64_wrap_in _ (by omega) (by omega)
      have HDD := Lib.hid hd
      have hz : (strOfNums [(d.toNat : Int)]).size = 1 := rfl
      have hlist : (strOfNums [(d.toNat : Int)] ++ c).data.toList = d :: c.data.toList := by simp [strOfNums]
      have hsz : (strOfNums [(d.toNat : Int)] ++ c).size = c.size + 1 := by
        have h1 : (strOfNums [(d.toNat : Int)] ++ c).data.toList.length = (strOfNums [(d.toNat : Int)] ++ c).size := rfl
        rw [← h1, hlist]; rfl
      have HL := Lib.hid (And.intro hlist hsz)
      clear hlist hsz hd
      generalize hv : strOfNums [(d.toNat : Int)] = sd at hcv hz HL
      go_wp2
      go_roundw
      case rel =>
        refine ⟨m / 10, sd ++ c, rfl, rfl, Lib.hid ?_, Lib.hid ⟨?_, .inr (by omega)⟩, by omega, hB.alloc hB.size _⟩
        · rw [HD.out, dec_step (by omega), HL.out.1, List.append_assoc, HDD.out]; rfl
        · rw [HL.out.2, Nat.pow_succ]
          have h1 := HM.out.1
          have h2 : m / 10 * (10 ^ c.size * 10) = m / 10 * 10 * 10 ^ c.size := by rw [Nat.mul_comm (10 ^ c.size) 10, Nat.mul_assoc]
          have h3 : m / 10 * 10 * 10 ^ c.size ≤ m * 10 ^ c.size := Nat.mul_le_mul_right _ (by omega)
          omega
      case measure => simp [intOf]; omega
    · have h9i : ¬ (m : Int) > 9 := by omega
      have q3 : IntKind.i64.wrap (48 + (m : Int)) = 48 + (m : Int) := i64_wrap_in _ (by omega) (by omega)
      obtain ⟨d, hd⟩ : ∃ d : UInt8, d = UInt8.ofNat (48 + m) := ⟨_, rfl⟩
      have q4 : IntKind.u8.wrap (48 + (m : Int)) = (d.toNat : Int) := by rw [hd, IntKind.wrap_u8, UInt8.toNat_ofNat']; omega
      have hz : (strOfNums [(d.toNat : Int)]).size = 1 := rfl
      have hfin : strOfNums [(d.toNat : Int)] ++ c = ⟨(Lib.decDigits n).toArray⟩ := by
        refine ByteArray.ext (Array.ext' ?_)
        show _ = (Lib.decDigits n).toArray.toList
        rw [HD.out, Lib.decDigits_one (by omega), ← hd]
        simp [strOfNums]
      have HF := Lib.hid hfin
      clear hfin hd
      generalize hv : strOfNums [(d.toNat : Int)] = sd at hcv hz HF
      go_wp2
      go_ret
      exact ⟨by rw [← HF.out]; rfl, hB.alloc hB.size _⟩
theorem rdigits_any (n : Int) (hn : In64 n) (w : World) : Calls Tryd.prog 31 #[.int .i64 n] w fun e w' => e = .returned (.string ⟨(Lib.itoa n).toArray⟩) ∧ Below w.heap.size w w' := by
  obtain ⟨h1, h2⟩ := hn
  by_cases h0 : n < 0
  · by_cases hm : n = -9223372036854775808
    · have e : Lib.itoa n = [45, 57, 50, 50, 51, 51, 55, 50, 48, 51, 54, 56, 53, 52, 55, 55, 53, 56, 48, 56] := by
        rw [hm]
        unfold Lib.itoa
        rw [if_pos (by decide)]
        rw [show (-9223372036854775808 : Int).natAbs = 9223372036854775808 from rfl]
        rw [show Lib.decDigits 9223372036854775808 = Lib.decDigits 922337203685477580 ++ [56] from dec_step (by decide)]
        rw [show Lib.decDigits 922337203685477580 = Lib.decDigits 92233720368547758 ++ [48] from dec_step (by decide)]
        rw [show Lib.decDigits 92233720368547758 = Lib.decDigits 9223372036854775 ++ [56] from dec_step (by decide)]
        rw [show Lib.decDigits 9223372036854775 = Lib.decDigits 922337203685477 ++ [53] from dec_step (by decide)]
        rw [show Lib.decDigits 922337203685477 = Lib.decDigits 92233720368547 ++ [55] from dec_step (by decide)]
        rw [show Lib.decDigits 92233720368547 = Lib.decDigits 9223372036854 ++ [55] from dec_step (by decide)]
        rw [show Lib.decDigits 9223372036854 = Lib.decDigits 922337203685 ++ [52] from dec_step (by decide)]
        rw [show Lib.decDigits 922337203685 = Lib.decDigits 92233720368 ++ [53] from dec_step (by decide)]
        rw [show Lib.decDigits 92233720368 = Lib.decDigits 9223372036 ++ [56] from dec_step (by decide)]
        rw [show Lib.decDigits 9223372036 = Lib.decDigits 922337203 ++ [54] from dec_step (by decide)]
        rw [show Lib.decDigits 922337203 = Lib.decDigits 92233720 ++ [51] from dec_step (by decide)]
        rw [show Lib.decDigits 92233720 = Lib.decDigits 9223372 ++ [48] from dec_step (by decide)]
        rw [show Lib.decDigits 9223372 = Lib.decDigits 922337 ++ [50] from dec_step (by decide)]
        rw [show Lib.decDigits 922337 = Lib.decDigits 92233 ++ [55] from dec_step (by decide)]
        rw [show Lib.decDigits 92233 = Lib.decDigits 9223 ++ [51] from dec_step (by decide)]
        rw [show Lib.decDigits 9223 = Lib.decDigits 922 ++ [51] from dec_step (by decide)]
        rw [show Lib.decDigits 922 = Lib.decDigits 92 ++ [50] from dec_step (by decide)]
        rw [show Lib.decDigits 92 = Lib.decDigits 9 ++ [50] from dec_step (by decide)]
        rw [Lib.decDigits_one (by decide)]
        rfl
      rw [e]
      go_enter Tryd.func31, Tryd.ntmps31
      go_wp2
      go_ret
      exact ⟨rfl, Below.refl _ _⟩
    · obtain ⟨k, hk⟩ : ∃ k : Nat, -n = k := ⟨(-n).toNat, by omega⟩
      have hw : IntKind.i64.wrap (-n) = (k : Int) := by rw [hk]; exact i64_wrap_in _ (by omega) (by omega)
      have e : Lib.itoa n = 45 :: Lib.decDigits k := by unfold Lib.itoa; rw [if_pos h0, show n.natAbs = k by omega]
      have hp := rdigits_pos k (by omega)
      have hkz : k ≤ 9223372036854775807 := by omega
      obtain ⟨z, hz⟩ : ∃ z : ByteArray, z = ⟨(Lib.decDigits k).toArray⟩ := ⟨_, rfl⟩
      have hzs : z.size ≤ 1000 := by
        rw [hz]
        show (Lib.decDigits k).toArray.size ≤ 1000
        rw [List.size_toArray, Lib.decDigits_length]
        exact Nat.le_trans (Lib.nDigits_le20 k (by omega)) (by decide)
      rw [← hz] at hp
      have hfin : (⟨#[45]⟩ : ByteArray) ++ z = ⟨(Lib.itoa n).toArray⟩ := by
        rw [e, hz]
        refine ByteArray.ext (Array.ext' ?_)
        simp
      rw [← hfin]
      clear hfin hz e hk
      go_enter Tryd.func31, Tryd.ntmps31
      go_wp2_with (fail)
      go_at_call 31
      refine (hp _).mono ?_
      rintro e w1 ⟨rfl, hb⟩
      go_wp2
      go_ret
      exact ⟨rfl, hb⟩
  · obtain ⟨k, rfl⟩ : ∃ k : Nat, n = k := ⟨n.toNat, by omega⟩
    have e : Lib.itoa (k : Int) = Lib.decDigits k := by unfold Lib.itoa; rw [if_neg h0]; simp
    rw [e]
    exact rdigits_pos k (by omega) w
end Go.Proofs.YtgfjfpghjjknlaaDoor
