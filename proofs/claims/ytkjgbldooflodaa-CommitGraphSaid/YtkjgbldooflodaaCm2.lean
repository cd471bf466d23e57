/-
  The walk of commit.Write.
-/
import Derived.Test.YtkjgbldooflodaaCm1
import Derived.Deep.RegionHeld3
namespace Go.Proofs.Ytkjgbldooflodaa
open Go.RowKit Cm
set_option maxRecDepth 100000
set_option linter.unusedVariables false
set_option linter.unusedSimpArgs false
theorem join_empty (l : List ByteArray) : Lib.join (l.map (·.data.toList)) (⟨#[]⟩ : ByteArray).data.toList = joined l := by
  unfold joined
  induction l with
  | nil => rfl
  | cons p l ih =>
    cases l with
    | nil => simp [Lib.join]
    | cons q l =>
      rw [List.flatMap_cons, ← ih]
      simp [Lib.join]
theorem join_any (l : List ByteArray) (o : Option Addr) (c : Nat) (w : World) (h : Ss w o l) (hc : l.length ≤ c) (hl : l.length ≤ 1000) (hj : (joined l).length ≤ 1000000) :
    Calls Try.prog 30 #[.slice o l.length c, .string ⟨#[]⟩] w fun e w' => e = .returned (.string ⟨(joined l).toArray⟩) ∧ Below w.heap.size w w' := by
  cases l with
  | nil =>
    refine (Try.strings_Join_none o c ⟨#[]⟩ w).mono ?_
    rintro e w' ⟨rfl, rfl⟩
    exact ⟨rfl, Below.refl _ _⟩
  | cons p l =>
    obtain ⟨a, rfl⟩ := h.1 (by simp)
    have h0 := h.at (i := 0) (x := p) rfl
    have hs : a.spot = none := by
      unfold World.cell? at h0
      split at h0
      · cases hsp : a.spot with
        | none => rfl
        | some x => simp [Addr.add, hsp] at h0
      · cases h0
    obtain ⟨b, off, sp⟩ := a
    dsimp only at hs
    subst hs
    have hz := Try.strings_Join b off c (p :: l) ⟨#[]⟩ w (fun j x hx => by
      have := h.at hx
      rw [show (⟨b, off, none⟩ : Addr).add j = ⟨b, off + j, none⟩ by unfold Addr.add; split <;> simp_all] at this
      exact this) ((h.2 _ rfl).1 (by simp)) (by omega) hc (by rw [join_empty]; omega)
    rw [join_empty] at hz
    exact hz
theorem conv_one (g : Nat) (x : Int) (b : UInt8) (w : World) (hx : x = b.toNat) (h : w.cell? ⟨g, 0, none⟩ = some (.int .u8 x)) : (convert 63 9 (.slice (some ⟨g, 0, none⟩) 1 1)).run Try.prog w = .ok (.string ⟨#[b]⟩) w := by
  have := run_convert_bytes_back (P := Try.prog) w 63 9 5 ⟨g, 0, none⟩ 1 [b] Try.underlying63 Try.underlying5 Try.underlying9 (fun j hj => by
    obtain rfl : j = 0 := by simpa using hj
    rw [show (⟨g, 0, none⟩ : Addr).add 0 = ⟨g, 0, none⟩ from rfl, h, hx]
    rfl)
  exact this
theorem conv_two (g : Nat) (x y : Int) (b d : UInt8) (w : World) (hx : x = b.toNat) (hy : y = d.toNat) (h : w.cell? ⟨g, 0, none⟩ = some (.int .u8 x)) (h' : w.cell? ⟨g, 1, none⟩ = some (.int .u8 y)) : (convert 63 9 (.slice (some ⟨g, 0, none⟩) 2 2)).run Try.prog w = .ok (.string ⟨#[b, d]⟩) w := by
  have := run_convert_bytes_back (P := Try.prog) w 63 9 5 ⟨g, 0, none⟩ 2 [b, d] Try.underlying63 Try.underlying5 Try.underlying9 (fun j hj => by
    have hj2 : j = 0 ∨ j = 1 := by simp at hj; omega
    rcases hj2 with rfl | rfl
    · rw [show (⟨g, 0, none⟩ : Addr).add 0 = ⟨g, 0, none⟩ from rfl, h, hx]
      rfl
    · rw [show (⟨g, 0, none⟩ : Addr).add 1 = ⟨g, 1, none⟩ from rfl, h', hy]
      rfl)
  exact this
set_option maxHeartbeats 4000000 in
theorem write_any (r : ByteArray) (l : List ByteArray) (m : ByteArray) (o : Option Addr) (c : Nat) (w : World) (h : Ss w o l) (hn : o = none → c = 0) (hc : l.length ≤ c) (hl : l.length ≤ 1000) (hm : m.size ≤ 140737488351232) :
    Calls Try.prog 10 #[.agg #[.string r, .slice o l.length c, .string m]] w fun e w' => e = .returned (.tuple #[.string (if right ⟨r, l, m⟩ then ⟨(writeB ⟨r, l, m⟩).toArray⟩ else ⟨#[]⟩), .bool (right ⟨r, l, m⟩)]) ∧ Below w.heap.size w w' := by
  have hra := fun w h => cright_any r l m o c w h hn hl hm
  have hb1 : Below w.heap.size w (w.alloc (.cells #[.string r, .slice o l.length c, .string m] 24)) := (Below.refl _ _).alloc (Nat.le_refl _) _
  have hs1 := h.below hb1
  have hblk := heap_alloc_new w (.cells #[.string r, .slice o l.length c, .string m] 24)
  have k0 : (w.alloc (.cells #[.string r, .slice o l.length c, .string m] 24)).cell? ⟨w.heap.size, 0, none⟩ = some (.string r) := by rw [Lib.cell_of_heap hblk]; rfl
  have k1 : (w.alloc (.cells #[.string r, .slice o l.length c, .string m] 24)).cell? ⟨w.heap.size, 1, none⟩ = some (.slice o l.length c) := by rw [Lib.cell_of_heap hblk]; rfl
  have k2 : (w.alloc (.cells #[.string r, .slice o l.length c, .string m] 24)).cell? ⟨w.heap.size, 2, none⟩ = some (.string m) := by rw [Lib.cell_of_heap hblk]; rfl
  obtain ⟨rt, hrt⟩ : ∃ b : Bool, b = right ⟨r, l, m⟩ := ⟨_, rfl⟩
  rw [← hrt] at hra ⊢
  obtain ⟨rs, hrs⟩ : ∃ s : ByteArray, s = (if rt then ⟨(writeB ⟨r, l, m⟩).toArray⟩ else ⟨#[]⟩) := ⟨_, rfl⟩
  rw [← hrs]
  cases rt
  · obtain rfl : rs = ⟨#[]⟩ := by rw [hrs]; rfl
    clear hrs hrt
    go_enter Try.func10, Try.ntmps10
    go_wp2_with (go_at_call 29; refine (hra _ hs1).mono ?_; rintro e w2 ⟨rfl, hb2⟩)
    exact bodyPost_ret (v := .tuple #[.string ⟨#[]⟩, .bool false]) (by simp [results, Try.results10, go_sem]) rfl ⟨rfl, hb1.trans (hb2.mono hb1.size)⟩
  · have Hrs := Lib.hid hrs
    clear hrs
    obtain ⟨q1, q2, q3, q4, q5⟩ := right_parts hrt.symm
    dsimp only at q1 q2 q3 q4 q5
    have hjl : (joined l).length ≤ 1000000 := by rw [joined_length l q5]; omega
    obtain ⟨J, hJ⟩ : ∃ J : ByteArray, J = ⟨(joined l).toArray⟩ := ⟨_, rfl⟩
    have hj := fun w h => join_any l o c w h hc hl hjl
    rw [← hJ] at hj
    have hJs : J.size ≤ 1000000 := by rw [hJ]; show (joined l).toArray.size ≤ _; rw [List.size_toArray]; exact hjl
    have g1 : (l.length : Int) = (UInt8.ofNat l.length).toNat := by rw [UInt8.toNat_ofNat']; omega
    have g2 : (m.size : Int) / 256 = (UInt8.ofNat (m.size / 256)).toNat := by rw [UInt8.toNat_ofNat']; omega
    have g3 : (m.size : Int) % 256 = (UInt8.ofNat (m.size % 256)).toNat := by rw [UInt8.toNat_ofNat']; omega
    have v1 := fun g w => conv_one g _ _ w g1
    have v2 := fun g w => conv_two g _ _ _ _ w g2 g3
    obtain ⟨B1, hB1⟩ : ∃ B : ByteArray, B = ⟨#[UInt8.ofNat l.length]⟩ := ⟨_, rfl⟩
    obtain ⟨B2, hB2⟩ : ∃ B : ByteArray, B = ⟨#[UInt8.ofNat (m.size / 256), UInt8.ofNat (m.size % 256)]⟩ := ⟨_, rfl⟩
    rw [← hB1] at v1
    rw [← hB2] at v2
    have z1 : B1.size ≤ 1 := by rw [hB1]; exact Nat.le_refl _
    have z2 : B2.size ≤ 2 := by rw [hB2]; exact Nat.le_refl _
    obtain ⟨X1, hX1⟩ : ∃ X : ByteArray, X = ⟨#[67]⟩ ++ r := ⟨_, rfl⟩
    have x1 : X1.size ≤ 33 := by rw [hX1, ByteArray.size_append, q4]; exact Nat.le_refl _
    obtain ⟨X2, hX2⟩ : ∃ X : ByteArray, X = X1 ++ B1 := ⟨_, rfl⟩
    have x2 : X2.size ≤ 34 := by rw [hX2, ByteArray.size_append]; omega
    obtain ⟨X3, hX3⟩ : ∃ X : ByteArray, X = X2 ++ J := ⟨_, rfl⟩
    have x3 : X3.size ≤ 1000034 := by rw [hX3, ByteArray.size_append]; omega
    obtain ⟨X4, hX4⟩ : ∃ X : ByteArray, X = X3 ++ B2 := ⟨_, rfl⟩
    have x4 : X4.size ≤ 1000036 := by rw [hX4, ByteArray.size_append]; omega
    have hval : rs = X4 ++ m := by
      rw [Hrs.out, if_pos rfl, hX4, hX3, hX2, hX1, hJ, hB1, hB2]
      apply list_ext
      simp [writeB]
    have s1 : ∀ w, (Op.stringOp .add ⟨#[67]⟩ r).run Try.prog w = .ok (.string X1) w := fun w => by rw [hX1]; exact run_string_add_sum _ _ _ (by show 1 + r.size ≤ _; omega)
    have s2 : ∀ w, (Op.stringOp .add X1 B1).run Try.prog w = .ok (.string X2) w := fun w => by rw [hX2]; exact run_string_add_sum _ _ _ (by omega)
    have s3 : ∀ w, (Op.stringOp .add X2 J).run Try.prog w = .ok (.string X3) w := fun w => by rw [hX3]; exact run_string_add_sum _ _ _ (by omega)
    have s4 : ∀ w, (Op.stringOp .add X3 B2).run Try.prog w = .ok (.string X4) w := fun w => by rw [hX4]; exact run_string_add_sum _ _ _ (by omega)
    have s5 : ∀ w, (Op.stringOp .add X4 m).run Try.prog w = .ok (.string rs) w := fun w => by rw [hval]; exact run_string_add_sum _ _ _ (by omega)
    clear hX1 hX2 hX3 hX4 hval x1 x2 x3 x4
    have G := Lib.hid (And.intro hB1 hB2)
    clear g1 g2 g3 hB1 hB2
    have e1 : IntKind.u8.wrap (l.length : Int) = l.length := by rw [IntKind.wrap_u8]; omega
    have e2 : IntKind.u8.wrap ((m.size : Int) / 256) = (m.size : Int) / 256 := by rw [IntKind.wrap_u8]; omega
    have e3 : IntKind.u8.wrap (m.size : Int) = (m.size : Int) % 256 := by rw [IntKind.wrap_u8]
    have HR := Lib.hid hrt
    have HQ := Lib.hid (And.intro q4 q5)
    have HJ := Lib.hid hJ
    clear hrt q2 q4 q5 hJ hjl
    go_enter Try.func10, Try.ntmps10
    go_wp2_with (go_at_call 29; refine (hra _ hs1).mono ?_; rintro e w2 ⟨rfl, hb2⟩; have hbx : Below w.heap.size _ w2 := hb2.mono (by simp); have hblk2 := (hb2.block w.heap.size (by simp)).trans hblk; have hB2 := hb1.trans hbx; have hs2 := h.below hB2; have k0 : w2.cell? ⟨w.heap.size, 0, none⟩ = some (.string r) := (by (rw [Lib.cell_of_heap hblk2]; rfl)); have k1 : w2.cell? ⟨w.heap.size, 1, none⟩ = some (.slice o l.length c) := (by (rw [Lib.cell_of_heap hblk2]; rfl)); have k2 : w2.cell? ⟨w.heap.size, 2, none⟩ = some (.string m) := (by (rw [Lib.cell_of_heap hblk2]; rfl)))
    have BX0 : Below w2.heap.size w2 w2.drew := (Below.refl _ _).drew
    have BX1 : ∀ a, Below w2.heap.size w2 (w2.alloc a).drew := fun a => ((Below.refl _ _).alloc (Nat.le_refl _) _).drew
    have BX2 : ∀ a b, Below w2.heap.size w2 ((w2.alloc a).alloc b).drew := fun a b => (((Below.refl _ _).alloc (Nat.le_refl _) _).alloc (by simp) _).drew
    have KK : ∀ w5, Below w2.heap.size w2 w5 → w5.cell? ⟨w.heap.size, 0, none⟩ = some (.string r) ∧ w5.cell? ⟨w.heap.size, 1, none⟩ = some (.slice o l.length c) ∧ w5.cell? ⟨w.heap.size, 2, none⟩ = some (.string m) := fun w5 hb5 => by
      have hblk5 := (hb5.block w.heap.size (Nat.lt_of_lt_of_le (by simp) hb2.size)).trans hblk2
      exact ⟨by rw [Lib.cell_of_heap hblk5]; rfl, by rw [Lib.cell_of_heap hblk5]; rfl, by rw [Lib.cell_of_heap hblk5]; rfl⟩
    have KS : ∀ cs T w5, Below (w2.alloc (.cells cs T)).drew.heap.size (w2.alloc (.cells cs T)).drew w5 → (∀ i, w5.cell? ⟨w2.heap.size, i, none⟩ = cs[i]?) ∧ w2.heap.size < w5.heap.size := fun cs T w5 hb => by
      have hk5 := (hb.block w2.heap.size (by show _ < (w2.alloc _).heap.size; simp)).trans (heap_alloc_new w2 (.cells cs T))
      exact ⟨fun i => by rw [Lib.cell_of_heap hk5], (Array.getElem?_eq_some_iff.1 hk5).1⟩
    have KD : ∀ cs T cs' T' w5, Below ((w2.alloc (.cells cs T)).alloc (.cells cs' T')).drew.heap.size ((w2.alloc (.cells cs T)).alloc (.cells cs' T')).drew w5 → (∀ i, w5.cell? ⟨w2.heap.size, i, none⟩ = cs[i]?) ∧ (∀ i, w5.cell? ⟨w2.heap.size + 1, i, none⟩ = cs'[i]?) ∧ w2.heap.size < w5.heap.size ∧ w2.heap.size + 1 < w5.heap.size := fun cs T cs' T' w5 hb => by
      have he : (w2.alloc (.cells cs T)).heap.size = w2.heap.size + 1 := by simp
      have hk := heap_alloc_new (w2.alloc (.cells cs T)) (.cells cs' T')
      rw [he] at hk
      have hk5 := (hb.block (w2.heap.size + 1) (by show _ < ((w2.alloc _).alloc _).heap.size; simp)).trans hk
      have hb2 : Below (w2.alloc (.cells cs T)).heap.size (w2.alloc (.cells cs T)) w5 := ((Below.refl _ _).alloc (Nat.le_refl _) _).drew.trans (hb.mono (by show _ ≤ ((w2.alloc _).alloc _).heap.size; simp))
      have hk4 := (hb2.block w2.heap.size (by simp)).trans (heap_alloc_new w2 (.cells cs T))
      exact ⟨fun i => by rw [Lib.cell_of_heap hk4], fun i => by rw [Lib.cell_of_heap hk5], (Array.getElem?_eq_some_iff.1 hk4).1, (Array.getElem?_eq_some_iff.1 hk5).1⟩
    have hcv := cvB_eq
    simp only [show ∀ x : Operand, Op.convert 63 9 x = cvB 63 9 x from fun _ => rfl]
    go_region_held3 (fun w' => w'.cell? ⟨w.heap.size, 0, none⟩ = some (.string r) ∧ w'.cell? ⟨w.heap.size, 1, none⟩ = some (.slice o l.length c) ∧ w'.cell? ⟨w.heap.size, 2, none⟩ = some (.string m)) (first | exact ⟨k0, k1, k2⟩ | exact k5 | go_keep) ((first | (go_at_call 30; go_loud (refine (hj _ (hs2.below (BX2 _ _))).mono ?_; rintro e w5 ⟨rfl, hC5⟩; have hb5 : Below w2.heap.size w2 w5 := (BX2 _ _).trans (hC5.mono (BX2 _ _).size); have k5 := KK _ hb5; obtain ⟨k6, k7, k8, k9⟩ := KD _ _ _ _ _ hC5)) | (go_at_call 30; go_loud (refine (hj _ (hs2.below (BX1 _))).mono ?_; rintro e w5 ⟨rfl, hC5⟩; have hb5 : Below w2.heap.size w2 w5 := (BX1 _).trans (hC5.mono (BX1 _).size); have k5 := KK _ hb5; obtain ⟨k6, k8⟩ := KS _ _ _ hC5)) | (go_at_call 30; go_loud (refine (hj _ (hs2.below BX0)).mono ?_; rintro e w5 ⟨rfl, hC5⟩; have hb5 : Below w2.heap.size w2 w5 := BX0.trans (hC5.mono BX0.size); have k5 := KK _ hb5))))
    all_goals (
      have hB5 := hB2.trans (hb5.mono hB2.size)
      go_wp2
      refine bodyPost_ret (v := .tuple #[.string rs, .bool true]) (by simp [results, Try.results10, go_sem]) rfl ⟨rfl, ?_⟩
      first
        | exact hB5
        | exact hB5.alloc hB5.size _
        | exact (hB5.alloc hB5.size _).alloc (Nat.le_trans hB5.size (by simp)) _
        | exact hB5.drew
        | exact (hB5.alloc hB5.size _).drew
        | exact ((hB5.alloc hB5.size _).alloc (Nat.le_trans hB5.size (by simp)) _).drew)
end Go.Proofs.Ytkjgbldooflodaa
