/-
  Two right values that are shown alike are one, in plain Lean.
-/
import Derived.Test.YtgfjfpghjjknlaaDoorClC
namespace Go.Proofs.YtgfjfpghjjknlaaDoor
open Go.RowKit Cl
set_option maxRecDepth 100000
set_option linter.unusedVariables false
set_option linter.unusedSimpArgs false
namespace Sh
def valD (l : List UInt8) : Nat := l.foldl (fun x b => x * 10 + (b.toNat - 48)) 0
theorem valD_snoc (l : List UInt8) (b : UInt8) : valD (l ++ [b]) = valD l * 10 + (b.toNat - 48) := by unfold valD; rw [List.foldl_append]; rfl
theorem dec_facts : ∀ (n u : Nat), u ≤ n → valD (Lib.decDigits u) = u ∧ (∀ b ∈ Lib.decDigits u, 48 ≤ b.toNat ∧ b.toNat ≤ 57) ∧ Lib.decDigits u ≠ [] := by
  intro n
  induction n with
  | zero =>
    intro u hu
    obtain rfl : u = 0 := by omega
    rw [Lib.decDigits_one (by decide)]
    exact ⟨by decide, by decide, by decide⟩
  | succ n ih =>
    intro u hu
    by_cases h : u < 10
    · rw [Lib.decDigits_one h]
      have hb : (UInt8.ofNat (48 + u)).toNat = 48 + u := by rw [UInt8.toNat_ofNat']; omega
      refine ⟨?_, ?_, by simp⟩
      · show 0 * 10 + ((UInt8.ofNat (48 + u)).toNat - 48) = u
        rw [hb]; omega
      · intro b hm
        rw [List.mem_singleton] at hm
        subst hm
        omega
    · have e : Lib.decDigits u = Lib.decDigits (u / 10) ++ [UInt8.ofNat (48 + u % 10)] := by rw [Lib.decDigits, dif_neg h]
      have hb : (UInt8.ofNat (48 + u % 10)).toNat = 48 + u % 10 := by rw [UInt8.toNat_ofNat']; omega
      obtain ⟨h1, h2, h3⟩ := ih (u / 10) (by omega)
      rw [e]
      refine ⟨?_, ?_, by simp⟩
      · rw [valD_snoc, h1, hb]; omega
      · intro b hm
        rcases List.mem_append.1 hm with hm | hm
        · exact h2 b hm
        · rw [List.mem_singleton] at hm
          subst hm
          omega
theorem dec_inj {u v : Nat} (h : Lib.decDigits u = Lib.decDigits v) : u = v := by
  rw [← (dec_facts u u (Nat.le_refl _)).1, ← (dec_facts v v (Nat.le_refl _)).1, h]
theorem itoa_head (n : Int) : ∃ c l, Lib.itoa n = c :: l ∧ (c.toNat = 45 ∨ (48 ≤ c.toNat ∧ c.toNat ≤ 57)) := by
  unfold Lib.itoa
  split
  · exact ⟨_, _, rfl, .inl rfl⟩
  · obtain ⟨_, h2, h3⟩ := dec_facts n.toNat n.toNat (Nat.le_refl _)
    cases hd : Lib.decDigits n.toNat with
    | nil => exact absurd hd h3
    | cons c l => exact ⟨c, l, rfl, .inr (h2 c (by rw [hd]; exact List.mem_cons_self ..))⟩
theorem itoa_inj {n m : Int} (h : Lib.itoa n = Lib.itoa m) : n = m := by
  have neg : ∀ (a b : Int), a < 0 → ¬ b < 0 → Lib.itoa a ≠ Lib.itoa b := by
    intro a b ha hb e
    unfold Lib.itoa at e
    rw [if_pos ha, if_neg hb] at e
    have := (dec_facts b.toNat b.toNat (Nat.le_refl _)).2.1 45 (by rw [← e]; exact List.mem_cons_self ..)
    exact absurd this (by decide)
  by_cases hn : n < 0
  · by_cases hm : m < 0
    · unfold Lib.itoa at h
      rw [if_pos hn, if_pos hm] at h
      have := dec_inj (List.cons.inj h).2
      omega
    · exact absurd h (neg n m hn hm)
  · by_cases hm : m < 0
    · exact absurd h.symm (neg m n hm hn)
    · unfold Lib.itoa at h
      rw [if_neg hn, if_neg hm] at h
      have := dec_inj h
      omega
theorem quote_cons (b : UInt8) (l : List UInt8) : quote (b :: l) = (if b = 39 then [39, 39] else [b]) ++ quote l := by unfold quote; rw [List.flatMap_cons]
theorem quote_inj : ∀ (a b : List UInt8), quote a = quote b → a = b := by
  intro a
  induction a with
  | nil =>
    intro b h
    cases b with
    | nil => rfl
    | cons y b =>
      rw [quote_cons] at h
      exfalso
      split at h <;> simp [quote] at h
  | cons x a ih =>
    intro b h
    cases b with
    | nil =>
      rw [quote_cons] at h
      exfalso
      split at h <;> simp [quote] at h
    | cons y b =>
      rw [quote_cons, quote_cons] at h
      by_cases hx : x = 39
      · by_cases hy : y = 39
        · rw [if_pos hx, if_pos hy] at h
          rw [hx, hy, ih b (List.append_cancel_left h)]
        · rw [if_pos hx, if_neg hy] at h
          simp only [List.cons_append, List.cons.injEq] at h
          exact absurd h.1.symm hy
      · by_cases hy : y = 39
        · rw [if_neg hx, if_pos hy] at h
          simp only [List.cons_append, List.cons.injEq] at h
          exact absurd h.1 hx
        · rw [if_neg hx, if_neg hy] at h
          simp only [List.cons_append, List.nil_append, List.cons.injEq] at h
          rw [h.1, ih b h.2]
def unhexL (d : UInt8) : Nat := if d.toNat < 58 then d.toNat - 48 else d.toNat - 87
theorem d_unhex (n : Nat) (h : n < 16) : unhexL (Hx.d n) = n := by
  have : ∀ n : Fin 16, unhexL (Hx.d n.1) = n.1 := by decide
  exact this ⟨n, h⟩
theorem hex_inj : ∀ (a b : List UInt8), Hx.hex a = Hx.hex b → a = b := by
  intro a
  induction a with
  | nil =>
    intro b h
    cases b with
    | nil => rfl
    | cons y b => simp [Hx.hex] at h
  | cons x a ih =>
    intro b h
    cases b with
    | nil => simp [Hx.hex] at h
    | cons y b =>
      have e : ∀ (z : UInt8) (l : List UInt8), Hx.hex (z :: l) = Hx.d (z.toNat / 16) :: Hx.d (z.toNat % 16) :: Hx.hex l := fun z l => rfl
      rw [e, e] at h
      simp only [List.cons.injEq] at h
      have hx := x.toNat_lt
      have hy := y.toNat_lt
      have h1 := congrArg unhexL h.1
      have h2 := congrArg unhexL h.2.1
      rw [d_unhex _ (by omega), d_unhex _ (by omega)] at h1 h2
      have h3 : x.toNat = y.toNat := by omega
      rw [UInt8.toNat_inj.1 h3, ih b h.2.2]
theorem empty_of {s : ByteArray} (h : s.toList.isEmpty = true) : s = ⟨#[]⟩ := by
  rw [toList_data] at h
  exact ByteArray.ext (Array.ext' (by simpa using h))
theorem str_of {s t : ByteArray} (h : s.data.toList = t.data.toList) : s = t := ByteArray.ext (Array.ext' h)
/-- What a right value is. -/
theorem right_cases {v : V} (h : right v = true) : (v = ⟨0, 0, ⟨#[]⟩⟩) ∨ (v = ⟨1, v.n, ⟨#[]⟩⟩) ∨ (v = ⟨2, 0, ⟨#[]⟩⟩) ∨ (v = ⟨2, 1, ⟨#[]⟩⟩) ∨ (v = ⟨3, 0, v.s⟩ ∧ v.s.size ≤ 1000) ∨ (v = ⟨4, 0, v.s⟩ ∧ v.s.size ≤ 1000) := by
  obtain ⟨k, n, s⟩ := v
  unfold right at h
  dsimp only at h ⊢
  by_cases h0 : k = 0
  · rw [if_pos h0] at h
    simp only [Bool.and_eq_true, decide_eq_true_eq] at h
    rw [h0, h.1, empty_of h.2]; simp
  · by_cases h1 : k = 1
    · rw [if_neg h0, if_pos h1] at h
      rw [h1, empty_of h]; simp
    · by_cases h2 : k = 2
      · rw [if_neg h0, if_neg h1, if_pos h2] at h
        simp only [Bool.and_eq_true, Bool.or_eq_true, decide_eq_true_eq] at h
        rcases h.1 with hn | hn <;> rw [h2, hn, empty_of h.2] <;> simp
      · by_cases h3 : k = 3 ∨ k = 4
        · rw [if_neg h0, if_neg h1, if_neg h2, if_pos h3] at h
          simp only [Bool.and_eq_true, decide_eq_true_eq] at h
          rcases h3 with h3 | h3 <;> rw [h3, h.1] <;> simp [h.2]
        · rw [if_neg h0, if_neg h1, if_neg h2, if_neg h3] at h
          cases h
theorem show0 : showV ⟨0, 0, ⟨#[]⟩⟩ = [78, 85, 76, 76] := by decide +kernel
theorem show1 (n : Int) : showV ⟨1, n, ⟨#[]⟩⟩ = Lib.itoa n := by
  unfold showV
  rw [if_neg (by simp [right]), if_pos rfl]
theorem show2f : showV ⟨2, 0, ⟨#[]⟩⟩ = [70, 65, 76, 83, 69] := by decide +kernel
theorem show2t : showV ⟨2, 1, ⟨#[]⟩⟩ = [84, 82, 85, 69] := by decide +kernel
theorem show3 (s : ByteArray) (h : s.size ≤ 1000) : showV ⟨3, 0, s⟩ = 39 :: (quote s.data.toList ++ [39]) := by
  unfold showV
  rw [if_neg (by simp [right, h]), if_neg (show ¬ (3 : Int) = 1 by decide), if_neg (show ¬ (3 : Int) = 2 by decide), if_pos rfl]
theorem show4 (s : ByteArray) (h : s.size ≤ 1000) : showV ⟨4, 0, s⟩ = 120 :: 39 :: (Hx.hex s.data.toList ++ [39]) := by
  unfold showV
  rw [if_neg (by simp [right, h]), if_neg (show ¬ (4 : Int) = 1 by decide), if_neg (show ¬ (4 : Int) = 2 by decide), if_neg (show ¬ (4 : Int) = 3 by decide), if_pos rfl]
/-- A shown value's first byte tells its kind. -/
def cls (v : V) : Nat := if v.k = 1 then 1 else if v.k = 0 then 2 else if v.k = 2 then (if v.n = 1 then 3 else 4) else if v.k = 3 then 5 else 6
def clsB (c : UInt8) : Nat := if c.toNat = 78 then 2 else if c.toNat = 84 then 3 else if c.toNat = 70 then 4 else if c.toNat = 39 then 5 else if c.toNat = 120 then 6 else 1
theorem cls_head {v : V} (h : right v = true) : ∃ c l, showV v = c :: l ∧ clsB c = cls v := by
  rcases right_cases h with h | h | h | h | ⟨h, hs⟩ | ⟨h, hs⟩
  · rw [h, show0]; exact ⟨_, _, rfl, rfl⟩
  · rw [h, show1]
    obtain ⟨c, l, he, hc⟩ := itoa_head v.n
    refine ⟨c, l, he, ?_⟩
    unfold clsB cls
    rw [if_neg (by omega), if_neg (by omega), if_neg (by omega), if_neg (by omega), if_neg (by omega)]
    rfl
  · rw [h, show2f]; exact ⟨_, _, rfl, rfl⟩
  · rw [h, show2t]; exact ⟨_, _, rfl, rfl⟩
  · rw [h, show3 _ hs]; exact ⟨_, _, rfl, rfl⟩
  · rw [h, show4 _ hs]; exact ⟨_, _, rfl, rfl⟩
theorem show_inj {a b : V} (ha : right a = true) (hb : right b = true) (h : showV a = showV b) : a = b := by
  have hc : cls a = cls b := by
    obtain ⟨c, l, h1, h2⟩ := cls_head ha
    obtain ⟨d, m, h3, h4⟩ := cls_head hb
    rw [h1, h3] at h
    rw [← h2, ← h4, (List.cons.inj h).1]
  have c0 : cls ⟨0, 0, ⟨#[]⟩⟩ = 2 := rfl
  have c1 : ∀ n, cls ⟨1, n, ⟨#[]⟩⟩ = 1 := fun n => rfl
  have c2 : cls ⟨2, 0, ⟨#[]⟩⟩ = 4 := rfl
  have c3 : cls ⟨2, 1, ⟨#[]⟩⟩ = 3 := rfl
  have c4 : ∀ s, cls ⟨3, 0, s⟩ = 5 := fun s => rfl
  have c5 : ∀ s, cls ⟨4, 0, s⟩ = 6 := fun s => rfl
  rcases right_cases ha with h1 | h1 | h1 | h1 | ⟨h1, hs1⟩ | ⟨h1, hs1⟩ <;> rcases right_cases hb with h2 | h2 | h2 | h2 | ⟨h2, hs2⟩ | ⟨h2, hs2⟩ <;> rw [h1, h2] at h hc ⊢ <;> simp only [c0, c1, c2, c3, c4, c5] at hc
  all_goals first
    | rfl
    | (exact absurd hc (by decide))
    | (rw [show1, show1] at h; rw [itoa_inj h])
    | (rw [show3 _ hs1, show3 _ hs2] at h; rw [str_of (quote_inj _ _ (List.append_cancel_right (List.cons.inj h).2))])
    | (rw [show4 _ hs1, show4 _ hs2] at h; rw [str_of (hex_inj _ _ (List.append_cancel_right (List.cons.inj (List.cons.inj h).2).2))])
end Sh
end Go.Proofs.YtgfjfpghjjknlaaDoor
