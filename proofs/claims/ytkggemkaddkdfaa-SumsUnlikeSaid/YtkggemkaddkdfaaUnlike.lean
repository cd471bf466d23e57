/-
  The walk of the law SumsUnlike.
-/
import Derived.Test.YtkggemkaddkdfaaSums
import Derived.Lib.LazyBuf
namespace Go.Proofs.Ytkggemkaddkdfaa
open Go.RowKit
set_option maxRecDepth 100000
theorem OwnZ.free {w : World} {base n g cap : Nat} {e : TypeId} {xs : List Value} (h : OwnZ w base e (.slice (some ⟨g, 0, none⟩) n cap) n xs) (j : Nat) (hj : j < n) : w.frozen? ⟨g, j, none⟩ = false := by
  obtain ⟨_, g', cap', cur, fz, hv, hb, hg, hf, h1, h2, h3, h4⟩ := h
  simp only [Value.slice.injEq, Option.some.injEq, Addr.mk.injEq, and_true, true_and] at hv
  obtain ⟨rfl, rfl⟩ := hv
  obtain ⟨lo, hi⟩ := fz
  simp only [World.frozen?, hg, Bool.and_eq_false_iff, decide_eq_false_iff_not]
  rcases hf with hf | hf
  · simp only [Prod.mk.injEq] at hf
    right; omega
  · left
    simp only at hf
    omega
theorem OwnZ.stored {w : World} {base n g cap : Nat} {e : TypeId} {xs : List Value} (h : OwnZ w base e (.slice (some ⟨g, 0, none⟩) n cap) n xs) (j : Nat) (v : Value) : OwnZ (w.setCell ⟨g, j, none⟩ v) base e (.slice (some ⟨g, 0, none⟩) n cap) n (xs.set j v) := by
  obtain ⟨h0, g', cap', cur, fz, hv, hb, hg, hf, h1, h2, h3, h4⟩ := h
  simp only [Value.slice.injEq, Option.some.injEq, Addr.mk.injEq, and_true, true_and] at hv
  obtain ⟨rfl, rfl⟩ := hv
  refine ⟨by simpa using h0, g, cap, cur.setIfInBounds j v, fz, rfl, hb, ?_, hf, h1, h2, by simpa using h3, ?_⟩
  · simp [World.setCell, Array.getElem?_modify, hg]
  · rw [Array.toList_setIfInBounds, List.take_set, h4]
/-- The bytes of a piece, k of which are turned. -/
def mx (m bs : List UInt8) (k : Nat) : List UInt8 := m.mapIdx fun i b => if i < k then b ^^^ bs.getD i 0 else b
theorem mx_length (m bs : List UInt8) (k : Nat) : (mx m bs k).length = m.length := by simp [mx]
theorem mx_zero (m bs : List UInt8) : mx m bs 0 = m := by
  apply List.ext_getElem
  · simp [mx]
  · intro i h1 h2
    simp [mx]
theorem mx_get (m bs : List UInt8) (k : Nat) (h : k < m.length) : (mx m bs k)[k]'(by rw [mx_length]; exact h) = m[k] := by
  simp [mx]
theorem mx_set (m bs : List UInt8) (k : Nat) (h : k < m.length) : (mx m bs k).set k (m[k] ^^^ bs.getD k 0) = mx m bs (k + 1) := by
  apply List.ext_getElem
  · simp [mx]
  · intro i h1 h2
    rw [List.getElem_set]
    simp only [mx, List.getElem_mapIdx]
    by_cases hk : k = i
    · subst hk; simp
    · rw [if_neg hk]
      by_cases hi : i < k
      · rw [if_pos hi, if_pos (by omega)]
      · rw [if_neg hi, if_neg (by omega)]
theorem mx_out (m bs : List UInt8) (k : Nat) (h : m.length ≤ k) : mx m bs k = mx m bs (k + 1) := by
  apply List.ext_getElem
  · simp [mx]
  · intro i h1 h2
    simp only [mx, List.length_mapIdx] at h1
    simp only [mx, List.getElem_mapIdx]
    rw [if_pos (by omega), if_pos (by omega)]
theorem bits8_xor (x y : UInt8) : Go.bits .xor .u8 (x.toNat : Int) (y.toNat : Int) = ((x ^^^ y).toNat : Int) := by
  show IntKind.u8.wrap (((BitVec.ofInt 8 (x.toNat : Int)) ^^^ (BitVec.ofInt 8 (y.toNat : Int))).toNat : Int) = _
  rw [IntKind.wrap_u8', BitVec.ofInt_natCast, BitVec.ofInt_natCast, UInt8.toNat_xor, BitVec.toNat_xor, BitVec.toNat_ofNat, BitVec.toNat_ofNat]
  have h1 := x.toNat_lt
  have h2 := y.toNat_lt
  have h3 : x.toNat ^^^ y.toNat < 2 ^ 8 := Nat.xor_lt_two_pow h1 h2
  rw [Nat.mod_eq_of_lt h1, Nat.mod_eq_of_lt h2]
  omega
def bs4 (x0 x1 x2 x3 : UInt8) : Array Value := #[.int .u8 x0.toNat, .int .u8 x1.toNat, .int .u8 x2.toNat, .int .u8 x3.toNat]
theorem index4 (x0 x1 x2 x3 : UInt8) (k : Nat) (h : k < 4) (w : World) :
    (Instr.index 30 (.agg (bs4 x0 x1 x2 x3)) (.int .i64 (k : Int))).run Try.prog w = .ok (.int .u8 ([x0, x1, x2, x3].getD k 0).toNat) w := by
  have i0 : ∀ w, (Instr.index 30 (.agg (bs4 x0 x1 x2 x3)) (.int .i64 0)).run Try.prog w = .ok (.int .u8 x0.toNat) w := fun _ => by kernel_rfl
  have i1 : ∀ w, (Instr.index 30 (.agg (bs4 x0 x1 x2 x3)) (.int .i64 1)).run Try.prog w = .ok (.int .u8 x1.toNat) w := fun _ => by kernel_rfl
  have i2 : ∀ w, (Instr.index 30 (.agg (bs4 x0 x1 x2 x3)) (.int .i64 2)).run Try.prog w = .ok (.int .u8 x2.toNat) w := fun _ => by kernel_rfl
  have i3 : ∀ w, (Instr.index 30 (.agg (bs4 x0 x1 x2 x3)) (.int .i64 3)).run Try.prog w = .ok (.int .u8 x3.toNat) w := fun _ => by kernel_rfl
  match k, h with
  | 0, _ => exact i0 w
  | 1, _ => exact i1 w
  | 2, _ => exact i2 w
  | 3, _ => exact i3 w
theorem bvals_set (l : List UInt8) (j : Nat) (b : UInt8) : (bvals l).set j (.int .u8 b.toNat) = bvals (l.set j b) := by simp [bvals, List.map_set]
set_option maxHeartbeats 2000000 in
theorem sumsUnlike_walk (s : ByteArray) (at_ : Int) (x0 x1 x2 x3 : UInt8) (w : World) (hs : s.size ≤ 140737488351232) (ha1 : -9223372036854775808 ≤ at_) (ha2 : at_ ≤ 9223372036854775807) :
    Calls Try.prog 6 #[.string s, .int .i64 at_, .agg (bs4 x0 x1 x2 x3)] w fun e w' => e = .returned (.bool true) ∧ Below w.heap.size w w' := by
  have hcv := fun (w : World) (s : ByteArray) => Lib.run_convert_string_bytes (P := Try.prog) w 9 31 5 s (u := .string) rfl rfl rfl
  go_enter Try.func6, Try.ntmps6
  have hB0 : Below w.heap.size w (w.alloc (.cells (bs4 x0 x1 x2 x3) 30)) := (Below.refl _ _).alloc (Nat.le_refl _) _
  go_wp2_with (fail)
  go_at_call 7
  refine (alive_any _).mono ?_
  rintro e w1 ⟨rfl, hb1⟩
  have hB1 := hB0.trans (hb1.mono hB0.size)
  have hbox : w1.heap[w.heap.size]? = some (.cells (bs4 x0 x1 x2 x3) 30 (0, 0)) := by
    rw [hb1.block _ (by simp)]
    exact heap_alloc_new w _
  clear hb1 hB0
  by_cases h5 : (s.size : Int) > 5000
  · go_wp2
    go_ret
    exact ⟨rfl, hB1⟩
  by_cases h0 : at_ < 0
  · go_wp2
    go_ret
    exact ⟨rfl, hB1⟩
  by_cases hn : (s.size : Int) ≤ at_
  · go_wp2
    go_ret
    exact ⟨rfl, hB1⟩
  obtain ⟨A, rfl⟩ : ∃ A : Nat, at_ = (A : Int) := ⟨at_.toNat, by omega⟩
  have hA : A < s.size := by omega
  have h5' : s.size ≤ 5000 := by omega
  clear h5 h0 hn
  go_wp2_with (refine wpList_load_row rfl _ _ rfl w.heap.size rfl 30 (bs4 x0 x1 x2 x3) (0, 0) _ ?hg rfl rfl (by kernel_rfl) ?_)
  case hg =>
    rw [Lib.bytesWorld_at_old w1 5 s _ (Array.getElem?_eq_some_iff.1 hbox).1]
    exact hbox
  obtain ⟨wz, hwz⟩ : ∃ wz, wz = Lib.bytesWorld w1 5 s := ⟨_, rfl⟩
  have hbz := bytesWorld_below w1 5 s
  have hoz := OwnZ.of_bytes w1 w1.heap.size 5 s (Nat.le_refl _) (by unfold maxLen; omega)
  rw [← hwz] at hbz hoz ⊢
  obtain ⟨cap, hcap⟩ : ∃ cap, cap = grownCap w1 s.size 0 5 := ⟨_, rfl⟩
  rw [← hcap] at hoz ⊢
  obtain ⟨g, hg⟩ : ∃ g, g = w1.heap.size := ⟨_, rfl⟩
  rw [← hg] at hoz hbz ⊢
  have hgB : w.heap.size ≤ g := by rw [hg]; exact hB1.size
  have hBz : Below w.heap.size w wz := hB1.trans (hbz.mono (by rw [hg] at hgB; rw [hg]; exact hgB))
  obtain ⟨l, hl⟩ : ∃ l, l = s.data.toList := ⟨_, rfl⟩
  have hll : l.length = s.size := by rw [hl]; rfl
  obtain ⟨pre, hpre⟩ : ∃ pre, pre = l.take A := ⟨_, rfl⟩
  obtain ⟨m, hm⟩ : ∃ m, m = (l.drop A).take 4 := ⟨_, rfl⟩
  obtain ⟨suf, hsuf⟩ : ∃ suf, suf = (l.drop A).drop 4 := ⟨_, rfl⟩
  have hparts : l = pre ++ m ++ suf := by rw [hpre, hm, hsuf, List.append_assoc, List.take_append_drop, List.take_append_drop]
  have hprel : pre.length = A := by rw [hpre, List.length_take]; omega
  have hm4 : m.length ≤ 4 := by rw [hm, List.length_take]; omega
  have hml : m.length = min 4 (s.size - A) := by rw [hm, List.length_take, List.length_drop, hll]
  have hoz' : OwnZ wz g 5 (.slice (some ⟨g, 0, none⟩) s.size cap) s.size (bvals (pre ++ mx m [x0, x1, x2, x3] 0 ++ suf)) := by
    rw [mx_zero, ← hparts, hl]; exact hoz
  have HL := Lib.hid (And.intro hl (And.intro hparts hll))
  have Hcap := Lib.hid hcap
  clear hcv hoz hbox hB1 hwz hcap hbz hl hparts hll hpre hm hsuf hg
  have hix := fun k h w => index4 x0 x1 x2 x3 k h w
  generalize hbb : ([x0, x1, x2, x3] : List UInt8) = bb at hoz' hix
  clear hbb
  have Hix := Lib.hid hix
  clear hix
  go_loopw [28] (fun v wr => ∃ k : Nat, k ≤ 4 ∧ v = .int .i64 k ∧ OwnZ wr g 5 (.slice (some ⟨g, 0, none⟩) s.size cap) s.size (bvals (pre ++ mx m bb k ++ suf)) ∧ Below w.heap.size w wr)
    (fun v _ => 4 - (intOf v).toNat)
  case atStart => exact ⟨0, by omega, rfl, hoz', hBz⟩
  clear hoz' hBz
  case round =>
    obtain ⟨k, hk, rfl, hoz, hB⟩ := hrel
    by_cases hk4 : k < 4
    · have hi := Hix.out k hk4
      obtain ⟨y, hy⟩ : ∃ y, y = bb.getD k 0 := ⟨_, rfl⟩
      rw [← hy] at hi
      have Hy := Lib.hid hy
      clear hy
      by_cases hin : A + k < s.size
      · have hkm : k < m.length := by omega
        have hc := hoz.cell (A + k) hin
        have hf := hoz.free (A + k) hin
        have hge : (pre ++ mx m bb k ++ suf)[A + k]? = some m[k] := by
          rw [List.append_assoc, List.getElem?_append_right (by omega), hprel, show A + k - A = k by omega, List.getElem?_append_left (by rw [mx_length]; exact hkm), List.getElem?_eq_getElem (by rw [mx_length]; exact hkm), mx_get _ _ _ hkm]
        have hc' : wr.cell? ⟨g, A + k, none⟩ = some (.int .u8 (m[k]).toNat) := by
          rw [hc]; unfold bvals; rw [List.getElem?_map, hge]; rfl
        clear hc hge
        obtain ⟨z, hz⟩ : ∃ z, z = m[k] := ⟨_, rfl⟩
        rw [← hz] at hc'
        have Hz := Lib.hid hz
        clear hz
        go_wp2
        go_roundw
        case rel =>
          refine ⟨k + 1, by omega, by go_num, ?_, hB.setCell (p := ⟨g, A + k, none⟩) hgB _⟩
          have h1 := hoz.stored (A + k) (.int .u8 (m[k] ^^^ bb.getD k 0).toNat)
          rw [bvals_set, List.append_assoc, List.set_append_right _ _ (by omega), hprel, show A + k - A = k by omega, List.set_append_left _ _ (by rw [mx_length]; exact hkm), mx_set _ _ _ hkm, ← List.append_assoc] at h1
          rw [bits8_xor, Hz.out, Hy.out]
          exact h1
        case measure => simp [intOf]; omega
      · have hkm : m.length ≤ k := by omega
        go_wp2
        go_roundw
        case rel =>
          refine ⟨k + 1, by omega, by go_num, ?_, hB⟩
          rw [← mx_out _ _ _ hkm]
          exact hoz
        case measure => simp [intOf]; omega
    · obtain rfl : k = 4 := by omega
      have hst := OwnZ.string (P := Try.prog) (src := 31) (e := 5) (dst := 9) (xs := (pre ++ mx m bb 4 ++ suf).map fun b => (b.toNat : Int)) rfl rfl rfl (by rw [List.map_map]; exact hoz)
      rw [Lib.Lz.strOfNums_map] at hst
      have hlen2 : (pre ++ mx m bb 4 ++ suf).length = s.size := by
        have := hoz.1
        simpa [bvals] using this
      obtain ⟨S, hS⟩ : ∃ S : ByteArray, S = ⟨(pre ++ mx m bb 4 ++ suf).toArray⟩ := ⟨_, rfl⟩
      rw [← hS] at hst
      have hSl : S.data.toList = pre ++ mx m bb 4 ++ suf := by rw [hS]
      have hSz : S.size ≤ 140737488351232 := by
        have : S.data.toList.length = S.size := rfl
        rw [hSl] at this; omega
      have HS := Lib.hid hSl
      clear hS hSl hlen2 hoz
      by_cases heq : S = s
      · subst heq
        go_wp2
        go_ret
        exact ⟨by simp, hB⟩
      · have hne : uv (Crc.crc S.data.toList) ≠ uv (Crc.crc s.data.toList) := by
          intro h
          have h1 : Crc.crc S.data.toList = Crc.crc s.data.toList := BitVec.eq_of_toNat_eq (by unfold uv at h; exact Int.ofNat_inj.1 h)
          obtain ⟨e1, e2, _⟩ := HL.out
          rw [HS.out, ← e1, e2] at h1
          have h2 := Crc.crc_unlike pre (mx m bb 4) m suf (mx_length _ _ _) (by rw [mx_length]; exact hm4) h1
          apply heq
          have h3 : S.data.toList = s.data.toList := by rw [HS.out, h2, ← e2, e1]
          have h4 : S.data = s.data := Array.toList_inj.1 h3
          cases S; cases s; simp_all
        have heq' : ¬ S.toList = s.toList := fun h => heq (by rw [toList_data, toList_data] at h; have h4 : S.data = s.data := Array.toList_inj.1 h; cases S; cases s; simp_all)
        have hneb : (uv (Crc.crc S.data.toList) != uv (Crc.crc s.data.toList)) = true := by simpa using hne
        clear heq hne
        go_wp2_with (fail)
        go_at_call 12
        refine (check_any S wr hSz).mono ?_
        rintro e w3 ⟨rfl, hb3⟩
        go_wp2_with (fail)
        go_at_call 12
        refine (check_any s w3 hs).mono ?_
        rintro e w4 ⟨rfl, hb4⟩
        go_wp2_with (fail)
        go_ret
        have b3 := hB.trans (hb3.mono hB.size)
        exact ⟨by simp [hneb], b3.trans (hb4.mono b3.size)⟩
end Go.Proofs.Ytkggemkaddkdfaa
