/-
  The walk of the reference's Write (commits).
-/
import Derived.Test.YtkjgbldooflodaaCm4
import Derived.Test.YtkjgbldooflodaaCm2
namespace Go.Proofs.Ytkjgbldooflodaa
open Go.RowKit Cm
set_option maxRecDepth 100000
set_option linter.unusedVariables false
set_option linter.unusedSimpArgs false
namespace Cm
/-- What is written ahead of the message's length, at i parents. -/
def acc (r : ByteArray) (l : List ByteArray) (i : Nat) : ByteArray := ⟨(67 :: (r.data.toList ++ (UInt8.ofNat l.length :: joined (l.take i)))).toArray⟩
theorem acc_zero (r : ByteArray) (l : List ByteArray) : acc r l 0 = ⟨#[67]⟩ ++ r ++ ⟨#[UInt8.ofNat l.length]⟩ := by
  apply list_ext
  simp [acc, joined]
theorem acc_succ (r : ByteArray) (l : List ByteArray) (i : Nat) (x : ByteArray) (h : l[i]? = some x) : acc r l (i + 1) = acc r l i ++ x := by
  apply list_ext
  obtain ⟨hi, hx⟩ := List.getElem?_eq_some_iff.1 h
  unfold acc joined
  rw [List.take_succ_eq_append_getElem hi, hx]
  simp
theorem acc_size (r : ByteArray) (l : List ByteArray) (i : Nat) (hf : fine l = true) (hr : r.size = 32) : (acc r l i).size ≤ 34 + 32 * l.length := by
  have h1 : fine (l.take i) = true := by
    unfold fine at hf ⊢
    rw [List.all_eq_true] at hf ⊢
    exact fun p hp => hf p (List.mem_of_mem_take hp)
  have h2 := joined_length _ h1
  rw [← size_list]
  unfold acc
  simp only [List.length_cons, List.length_append, h2, List.length_take, size_list, hr]
  omega
theorem write_acc (r : ByteArray) (l : List ByteArray) (m : ByteArray) : (⟨(writeB ⟨r, l, m⟩).toArray⟩ : ByteArray) = acc r l l.length ++ ⟨#[UInt8.ofNat (m.size / 256), UInt8.ofNat (m.size % 256)]⟩ ++ m := by
  apply list_ext
  unfold writeB acc
  rw [List.take_length]
  simp
end Cm
set_option maxHeartbeats 4000000 in
theorem rwrite_any (r : ByteArray) (l : List ByteArray) (m : ByteArray) (o : Option Addr) (c : Nat) (w : World) (h : Ss w o l) (hl : l.length ≤ 1000) (hm : m.size ≤ 140737488351232) :
    Calls Try.prog 11 #[.agg #[.string r, .slice o l.length c, .string m]] w fun e w' => e = .returned (.tuple #[.string (if right ⟨r, l, m⟩ then ⟨(writeB ⟨r, l, m⟩).toArray⟩ else ⟨#[]⟩), .bool (right ⟨r, l, m⟩)]) ∧ Below w.heap.size w w' := by
  have hra := fun w h => rright_any r l m o c w h hl hm
  have hb1 : Below w.heap.size w (w.alloc (.cells #[.string r, .slice o l.length c, .string m] 24)) := (Below.refl _ _).alloc (Nat.le_refl _) _
  have hs1 := h.below hb1
  have hblk := heap_alloc_new w (.cells #[.string r, .slice o l.length c, .string m] 24)
  obtain ⟨rt, hrt⟩ : ∃ b : Bool, b = right ⟨r, l, m⟩ := ⟨_, rfl⟩
  rw [← hrt] at hra ⊢
  obtain ⟨rs, hrs⟩ : ∃ s : ByteArray, s = (if rt then ⟨(writeB ⟨r, l, m⟩).toArray⟩ else ⟨#[]⟩) := ⟨_, rfl⟩
  rw [← hrs]
  cases rt
  · obtain rfl : rs = ⟨#[]⟩ := by rw [hrs]; rfl
    clear hrs hrt
    go_enter Try.func11, Try.ntmps11
    go_wp2_with (go_at_call 31; refine (hra _ hs1).mono ?_; rintro e w2 ⟨rfl, hb2⟩)
    exact bodyPost_ret (v := .tuple #[.string ⟨#[]⟩, .bool false]) (by simp [results, Try.results11, go_sem]) rfl ⟨rfl, hb1.trans (hb2.mono hb1.size)⟩
  · obtain ⟨q1, q2, q3, q4, q5⟩ := right_parts hrt.symm
    dsimp only at q1 q2 q3 q4 q5
    have hval : rs = acc r l l.length ++ ⟨#[UInt8.ofNat (m.size / 256), UInt8.ofNat (m.size % 256)]⟩ ++ m := by rw [hrs, if_pos rfl, write_acc]
    clear hrs hrt
    have g1 : (l.length : Int) = (UInt8.ofNat l.length).toNat := by rw [UInt8.toNat_ofNat']; omega
    have g2 : (m.size : Int) / 256 = (UInt8.ofNat (m.size / 256)).toNat := by rw [UInt8.toNat_ofNat']; omega
    have g3 : (m.size : Int) % 256 = (UInt8.ofNat (m.size % 256)).toNat := by rw [UInt8.toNat_ofNat']; omega
    have v1 := fun g w => conv_one g _ _ w g1
    have v2 := fun g w => conv_two g _ _ _ _ w g2 g3
    obtain ⟨B1, hB1⟩ : ∃ B : ByteArray, B = ⟨#[UInt8.ofNat l.length]⟩ := ⟨_, rfl⟩
    obtain ⟨B2, hB2⟩ : ∃ B : ByteArray, B = ⟨#[UInt8.ofNat (m.size / 256), UInt8.ofNat (m.size % 256)]⟩ := ⟨_, rfl⟩
    rw [← hB1] at v1
    rw [← hB2] at v2 hval
    have z1 : B1.size ≤ 1 := by rw [hB1]; exact Nat.le_refl _
    have z2 : B2.size ≤ 2 := by rw [hB2]; exact Nat.le_refl _
    obtain ⟨X1, hX1⟩ : ∃ X : ByteArray, X = ⟨#[67]⟩ ++ r := ⟨_, rfl⟩
    have x1 : X1.size ≤ 33 := by rw [hX1, ByteArray.size_append, q4]; exact Nat.le_refl _
    have hX2 : acc r l 0 = X1 ++ B1 := by rw [acc_zero, hX1, hB1]
    have hac := fun i => acc_size r l i q5 q4
    have s1 : ∀ w, (Op.stringOp .add ⟨#[67]⟩ r).run Try.prog w = .ok (.string X1) w := fun w => by rw [hX1]; exact run_string_add_sum _ _ _ (by show 1 + r.size ≤ _; omega)
    have s2 : ∀ w, (Op.stringOp .add X1 B1).run Try.prog w = .ok (.string (acc r l 0)) w := fun w => by rw [hX2]; exact run_string_add_sum _ _ _ (by omega)
    have s3 : ∀ i x, l[i]? = some x → ∀ w, (Op.stringOp .add (acc r l i) x).run Try.prog w = .ok (.string (acc r l (i + 1))) w := fun i x hx w => by
      rw [acc_succ r l i x hx]
      have h1 := hac i
      have h2 : x.size = 32 := by
        unfold fine at q5
        have := List.all_eq_true.1 q5 x (List.mem_of_getElem? hx)
        simpa using this
      exact run_string_add_sum _ _ _ (by omega)
    obtain ⟨X4, hX4⟩ : ∃ X : ByteArray, X = acc r l l.length ++ B2 := ⟨_, rfl⟩
    have hacl := hac l.length
    have s4 : ∀ w, (Op.stringOp .add (acc r l l.length) B2).run Try.prog w = .ok (.string X4) w := fun w => by rw [hX4]; exact run_string_add_sum _ _ _ (by omega)
    have x4 : X4.size ≤ 1000036 := by rw [hX4, ByteArray.size_append]; omega
    have s5 : ∀ w, (Op.stringOp .add X4 m).run Try.prog w = .ok (.string rs) w := fun w => by rw [hval, ← hX4]; exact run_string_add_sum _ _ _ (by omega)
    have e1 : IntKind.u8.wrap (l.length : Int) = l.length := by rw [IntKind.wrap_u8]; omega
    have e2 : IntKind.u8.wrap ((m.size : Int) / 256) = (m.size : Int) / 256 := by rw [IntKind.wrap_u8]; omega
    have e3 : IntKind.u8.wrap ((m.size : Int) % 256) = (m.size : Int) % 256 := by rw [IntKind.wrap_u8]; omega
    have e4 : (m.size : Int).tdiv 256 = (m.size : Int) / 256 := Int.tdiv_eq_ediv_of_nonneg (by omega)
    have e5 : (m.size : Int).tmod 256 = (m.size : Int) % 256 := Int.tmod_eq_emod_of_nonneg (by omega)
    have e6 : IntKind.i64.wrap ((m.size : Int) / 256) = (m.size : Int) / 256 := wrap_fit _ (by omega) (by omega)
    have S3 := Lib.hid s3
    clear g1 g2 g3 hB1 hB2 hX1 hX2 hX4 hac s3 q2 q4 q5 hval z1 z2 x1 x4 hacl
    go_enter Try.func11, Try.ntmps11
    go_wp2_with (go_at_call 31; refine (hra _ hs1).mono ?_; rintro e w2 ⟨rfl, hb2⟩; have hblk2 := (hb2.block w.heap.size (by simp)).trans hblk; have k0 : w2.cell? ⟨w.heap.size, 0, none⟩ = some (.string r) := (by (rw [Lib.cell_of_heap hblk2]; rfl)); have k1 : w2.cell? ⟨w.heap.size, 1, none⟩ = some (.slice o l.length c) := (by (rw [Lib.cell_of_heap hblk2]; rfl)))
    have hlt2 : w.heap.size < w2.heap.size := Nat.lt_of_lt_of_le (by simp) hb2.size
    have hB2 : Below w.heap.size w w2 := hb1.trans (hb2.mono hb1.size)
    go_loopw [4, 5] (fun v x wr => ∃ i : Nat, i ≤ l.length ∧ v = .string (acc r l i) ∧ x = .int .i64 i ∧ Below w2.heap.size w2 wr)
      (fun _ x _ => l.length - (intOf x).toNat)
    case atStart => exact ⟨0, by omega, rfl, rfl, by first | exact Below.refl _ _ | exact (Below.refl _ _).alloc (Nat.le_refl _) _⟩
    case round =>
      obtain ⟨i, hi, rfl, rfl, hB⟩ := hrel
      have hblkr := (hB.block w.heap.size hlt2).trans hblk2
      have k1 : wr.cell? ⟨w.heap.size, 1, none⟩ = some (.slice o l.length c) := by rw [Lib.cell_of_heap hblkr]; rfl
      have k2 : wr.cell? ⟨w.heap.size, 2, none⟩ = some (.string m) := by rw [Lib.cell_of_heap hblkr]; rfl
      have hBr : Below w.heap.size w wr := hB2.trans (hB.mono hB2.size)
      have hltr : w.heap.size < wr.heap.size := Nat.lt_of_lt_of_le hlt2 hB.size
      by_cases hil : i < l.length
      · obtain ⟨ad, rfl⟩ := ss_some h hil
        obtain ⟨x, hx⟩ : ∃ x, l[i]? = some x := ⟨l[i], List.getElem?_eq_getElem hil⟩
        have cx := (h.below hBr).at hx
        have j16 : (i : Int) < l.length := by omega
        have s3 := S3.out i x hx
        clear hx hblkr
        go_wp2
        go_roundw
        case rel => exact ⟨i + 1, hil, rfl, by go_num, hB⟩
        case measure => simp [intOf]; omega
      · obtain rfl : i = l.length := by omega
        go_wp2
        refine bodyPost_ret (v := .tuple #[.string rs, .bool true]) (by simp [results, Try.results11, go_sem]) rfl ⟨rfl, ?_⟩
        first
          | exact hBr
          | exact hBr.alloc hBr.size _
end Go.Proofs.Ytkjgbldooflodaa
