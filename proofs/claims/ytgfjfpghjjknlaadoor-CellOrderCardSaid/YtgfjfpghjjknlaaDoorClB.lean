/-
  The walk of cell.Show.
-/
import Derived.Test.YtgfjfpghjjknlaaDoorClA
import Derived.Test.YtgfjfpghjjknlaaDoorClH
import Derived.Lib.AppendIntMem
namespace Go.Proofs.YtgfjfpghjjknlaaDoor
open Go.RowKit Cl
set_option maxRecDepth 100000
set_option linter.unusedVariables false
set_option linter.unusedSimpArgs false
def quote (l : List UInt8) : List UInt8 := l.flatMap fun b => if b = 39 then [39, 39] else [b]
theorem quote_length (l : List UInt8) : (quote l).length ≤ 2 * l.length := by
  induction l with
  | nil => exact Nat.le_refl _
  | cons b l ih =>
    have e : quote (b :: l) = (if b = 39 then [39, 39] else [b]) ++ quote l := by unfold quote; rw [List.flatMap_cons]
    rw [e, List.length_append, List.length_cons]
    have h2 : (if b = 39 then [39, 39] else [b]).length ≤ 2 := by split <;> simp
    omega
/-- A value as it is shown. -/
def showV (v : V) : List UInt8 :=
  if right v = false then [63]
  else if v.k = 1 then Lib.itoa v.n
  else if v.k = 2 then (if v.n = 1 then [84, 82, 85, 69] else [70, 65, 76, 83, 69])
  else if v.k = 3 then 39 :: (quote v.s.data.toList ++ [39])
  else if v.k = 4 then 120 :: 39 :: (Hx.hex v.s.data.toList ++ [39])
  else [78, 85, 76, 76]
def showS (v : V) : ByteArray := ⟨(showV v).toArray⟩
theorem ascii_of_all {l : List UInt8} (h : l.all (fun b => decide (b.toNat < 128)) = true) : ∀ (j : Nat) b, l[j]? = some b → b.toNat < 128 :=
  fun _ b hb => of_decide_eq_true (List.all_eq_true.1 h b (List.mem_of_getElem? hb))
theorem upper_bool (b : Bool) : (⟨(Lib.toUpperA (Lib.formatBool b)).toArray⟩ : ByteArray) = ⟨(if b then [84, 82, 85, 69] else [70, 65, 76, 83, 69] : List UInt8).toArray⟩ := by cases b <;> rfl
theorem itoa_any (n : Int) (h0 : -9223372036854775808 ≤ n) (h1 : n ≤ 9223372036854775807) (w : World) (he : Env w) : Calls Tryd.prog 26 #[.int .i64 n, .int .i64 10] w fun e w' => e = .returned (.string ⟨(Lib.itoa n).toArray⟩) ∧ Below w.heap.size w w' := by
  refine (Tryd.strconv_FormatInt_10 n h0 h1 w he.tab).mono ?_
  rintro e w' ⟨rfl, k, os, rfl⟩
  exact ⟨rfl, Lib.below_grow _ w (Nat.le_refl _) k os⟩
def In64 (n : Int) : Prop := -9223372036854775808 ≤ n ∧ n ≤ 9223372036854775807
set_option maxHeartbeats 4000000 in
theorem show_any (v : V) (w : World) (he : Env w) (hn : In64 v.n) : Calls Tryd.prog 12 #[.agg #[.int .i64 v.k, .int .i64 v.n, .string v.s]] w fun e w' => e = .returned (.string (showS v)) ∧ Below w.heap.size w w' := by
  have hb1 := (Below.refl w.heap.size w).alloc (Nat.le_refl _) (.cells #[.int .i64 v.k, .int .i64 v.n, .string v.s] 23)
  have hv1 : VAt (w.alloc (.cells #[.int .i64 v.k, .int .i64 v.n, .string v.s] 23)) w.heap.size v := heap_alloc_new w _
  have hrt := right_any v (w.alloc (.cells #[.int .i64 v.k, .int .i64 v.n, .string v.s] 23))
  have hlt := he.lt
  obtain ⟨sh, hsh0⟩ : ∃ sh, sh = showS v := ⟨_, rfl⟩
  rw [← hsh0]
  have HSH := Lib.hid hsh0
  clear hsh0
  go_enter Tryd.func12, Tryd.ntmps12
  go_wp2_with (fail)
  go_at_call 10
  with_reducible refine hrt.mono ?_
  rintro e w1 ⟨rfl, hb⟩
  have hv := hv1.below hb
  have hB := hb1.trans (hb.mono hb1.size)
  have hE := (he.below hb1 he.lt).below hb (Nat.lt_of_lt_of_le he.lt hb1.size)
  obtain ⟨v0, v1, v2⟩ := hv.cells
  clear hrt hv1 hb hb1 he
  cases hr : right v
  · have hsh : sh = ⟨#[63]⟩ := by
      rw [HSH.out]
      unfold showS showV; rw [if_pos hr]
    subst hsh
    go_wp2
    go_ret
    exact ⟨rfl, hB⟩
  · skip
    by_cases hk1 : v.k = 1
    · have hsh : sh = ⟨(Lib.itoa v.n).toArray⟩ := by
        rw [HSH.out]
        unfold showS showV; rw [if_neg (by rw [hr]; decide), if_pos hk1]
      subst hsh
      have hi := itoa_any v.n hn.1 hn.2
      go_wp2_with (fail)
      go_at_call 26
      refine (hi _ hE).mono ?_
      rintro e w2 ⟨rfl, hb2⟩
      go_wp2
      go_ret
      exact ⟨rfl, hB.trans (hb2.mono hB.size)⟩
    · by_cases hk2 : v.k = 2
      · have hn01 : v.n = 0 ∨ v.n = 1 := by
          unfold right at hr
          rw [if_neg (by omega), if_neg hk1, if_pos hk2] at hr
          simp at hr
          exact hr.1
        rcases hn01 with hn0 | hn0
        · have hsh : sh = ⟨#[70, 65, 76, 83, 69]⟩ := by
            rw [HSH.out]
            unfold showS showV; rw [if_neg (by rw [hr]; decide), if_neg hk1, if_pos hk2, if_neg (by omega)]
          subst hsh
          go_wp2_with (fail)
          go_at_call 28
          refine (Tryd.strconv_FormatBool false _).mono ?_
          rintro e w2 ⟨rfl, rfl⟩
          go_wp2_with (fail)
          go_at_call 27
          refine (Tryd.strings_ToUpper_ascii ⟨(Lib.formatBool false).toArray⟩ _ (by decide) (ascii_of_all (by decide))).mono ?_
          rintro e w2 ⟨rfl, hb2⟩
          rw [show (⟨(Lib.toUpperA (⟨(Lib.formatBool false).toArray⟩ : ByteArray).data.toList).toArray⟩ : ByteArray) = ⟨#[70, 65, 76, 83, 69]⟩ from rfl]
          go_wp2
          go_ret
          exact ⟨rfl, hB.trans (hb2.mono hB.size)⟩
        · have hsh : sh = ⟨#[84, 82, 85, 69]⟩ := by
            rw [HSH.out]
            unfold showS showV; rw [if_neg (by rw [hr]; decide), if_neg hk1, if_pos hk2, if_pos hn0]
          subst hsh
          go_wp2_with (fail)
          go_at_call 28
          refine (Tryd.strconv_FormatBool true _).mono ?_
          rintro e w2 ⟨rfl, rfl⟩
          go_wp2_with (fail)
          go_at_call 27
          refine (Tryd.strings_ToUpper_ascii ⟨(Lib.formatBool true).toArray⟩ _ (by decide) (ascii_of_all (by decide))).mono ?_
          rintro e w2 ⟨rfl, hb2⟩
          rw [show (⟨(Lib.toUpperA (⟨(Lib.formatBool true).toArray⟩ : ByteArray).data.toList).toArray⟩ : ByteArray) = ⟨#[84, 82, 85, 69]⟩ from rfl]
          go_wp2
          go_ret
          exact ⟨rfl, hB.trans (hb2.mono hB.size)⟩
      · by_cases hk3 : v.k = 3
        · have hz : v.s.size ≤ 1000 := by
            unfold right at hr
            rw [if_neg (by omega), if_neg hk1, if_neg hk2, if_pos (.inl hk3)] at hr
            simp at hr
            exact hr.2
          have hql := quote_length v.s.data.toList
          have hsl : v.s.data.toList.length = v.s.size := rfl
          have hrp := fun w m (hm : w.cell? ⟨2, 0, none⟩ = some (.int .i64 m)) => Tryd.strings_ReplaceAll v.s ⟨#[39]⟩ ⟨#[39, 39]⟩ m w (by omega) hm (by decide) (by have hc : Lib.countB v.s ⟨#[39]⟩ ≤ v.s.size := Lib.countB_le ⟨#[39]⟩ (by decide) v.s.size v.s (Nat.le_refl _); show v.s.size + Lib.countB v.s ⟨#[39]⟩ * 2 ≤ _; omega)
          rw [show Lib.replaceAll v.s.data.toList (⟨#[39]⟩ : ByteArray).data.toList (⟨#[39, 39]⟩ : ByteArray).data.toList = quote v.s.data.toList from Esc.replaceAll_one 39 [39, 39] (by decide) _] at hrp
          obtain ⟨z, hzz⟩ : ∃ z : ByteArray, z = ⟨(quote v.s.data.toList).toArray⟩ := ⟨_, rfl⟩
          have hzs : z.size = (quote v.s.data.toList).length := by rw [hzz]; show (quote v.s.data.toList).toArray.size = _; rw [List.size_toArray]
          rw [← hzz] at hrp
          have HZ := Lib.hid hzz
          clear hzz
          have hsh : sh = (⟨#[39]⟩ : ByteArray) ++ z ++ (⟨#[39]⟩ : ByteArray) := by
            rw [HSH.out]
            rw [HZ.out]
            refine ByteArray.ext (Array.ext' ?_)
            unfold showS showV; rw [if_neg (by rw [hr]; decide), if_neg hk1, if_neg hk2, if_pos hk3]
            simp
          subst hsh
          obtain ⟨m, hm⟩ := hE.max
          go_wp2_with (fail)
          go_at_call 29
          refine (hrp _ m hm).mono ?_
          rintro e w2 ⟨rfl, hb2⟩
          go_wp2
          go_ret
          exact ⟨rfl, hB.trans (hb2.mono hB.size)⟩
        · by_cases hk4 : v.k = 4
          · have hz : v.s.size ≤ 1000 := by
              unfold right at hr
              rw [if_neg (by omega), if_neg hk1, if_neg hk2, if_pos (.inr hk4)] at hr
              simp at hr
              exact hr.2
            have hhx := hex_any v.s
            obtain ⟨z, hzz⟩ : ∃ z : ByteArray, z = Hx.str v.s := ⟨_, rfl⟩
            have hsl : v.s.data.toList.length = v.s.size := rfl
            have hzs : z.size = 2 * v.s.size := by rw [hzz]; show (Hx.hex v.s.data.toList).toArray.size = _; rw [List.size_toArray, Hx.hex_length, hsl]
            rw [← hzz] at hhx
            have HZ := Lib.hid hzz
            clear hzz
            have hsh : sh = (⟨#[120, 39]⟩ : ByteArray) ++ z ++ (⟨#[39]⟩ : ByteArray) := by
              rw [HSH.out]
              rw [HZ.out]
              refine ByteArray.ext (Array.ext' ?_)
              unfold showS showV; rw [if_neg (by rw [hr]; decide), if_neg hk1, if_neg hk2, if_neg hk3, if_pos hk4]
              simp [Hx.str]
            subst hsh
            go_wp2_with (fail)
            go_at_call 30
            refine (hhx _ (by omega)).mono ?_
            rintro e w2 ⟨rfl, hb2⟩
            go_wp2
            go_ret
            exact ⟨rfl, hB.trans (hb2.mono hB.size)⟩
          · have hsh : sh = ⟨#[78, 85, 76, 76]⟩ := by
              rw [HSH.out]
              unfold showS showV; rw [if_neg (by rw [hr]; decide), if_neg hk1, if_neg hk2, if_neg hk3, if_neg hk4]
            subst hsh
            go_wp2
            go_ret
            exact ⟨rfl, hB⟩
end Go.Proofs.YtgfjfpghjjknlaaDoor
