/-
  The walk of the law CellReads.
-/
import Derived.Test.YtgfjfpghjjknlaaDoorClU
import Derived.Test.YtgfjfpghjjknlaaDoorClV
import Derived.Test.YtgfjfpghjjknlaaDoorClF
namespace Go.Proofs.YtgfjfpghjjknlaaDoor
open Go.RowKit Cl
set_option maxRecDepth 100000
set_option linter.unusedVariables false
set_option linter.unusedSimpArgs false
theorem valsOut_any {sp : Option (List V)} {w w' : World} {e : Ending} (h : ValsOut sp w e w') : ∃ (o : Option Addr) (c : Nat), e = .returned (.tuple #[.slice o (sp.getD []).length c, .bool sp.isSome]) ∧ Sl w' o (sp.getD []) ∧ Below w.heap.size w w' := by
  obtain ⟨o, c, l, ok, rfl, hs, hb, h1, h2⟩ := h
  cases ok with
  | false =>
    obtain ⟨rfl, rfl⟩ := h2 rfl
    exact ⟨o, c, rfl, hs, hb⟩
  | true =>
    have e := h1 rfl
    subst e
    exact ⟨o, c, rfl, hs, hb⟩
theorem str_eq {s : ByteArray} {l : List UInt8} (h : l = s.data.toList) : (⟨l.toArray⟩ : ByteArray) = s := by
  subst h
  refine ByteArray.ext (Array.ext' ?_)
  simp
set_option maxHeartbeats 4000000 in
theorem cellReads_walk (s : ByteArray) (w : World) (he : Env w) (hs0 : s.size ≤ 140737488351232) :
    Calls Tryd.prog 7 #[.string s] w fun e w' => e = .returned (.bool true) ∧ Below w.heap.size w w' := by
  by_cases h5 : s.size > 5000
  · have h5i : (s.size : Int) > 5000 := by omega
    go_enter Tryd.func7, Tryd.ntmps7
    go_wp2_with (fail)
    go_at_call 9
    refine (awake_any w he).mono ?_
    rintro e w1 ⟨rfl, hb1⟩
    go_wp2
    go_ret
    exact ⟨rfl, hb1⟩
  · have h5i : ¬ (s.size : Int) > 5000 := by omega
    have k1 := fun w (he : Env w) => (read_any s w he (by omega)).mono fun e w' h => valsOut_any h
    have k2 := fun w => (rread_any s w (by omega)).mono fun e w' h => valsOut_any h
    have k3 := fun w (he : Env w) => (back_any s w he (by omega)).mono fun e w' h => valsOut_any h
    have k4 := fun w => (rback_any s w (by omega)).mono fun e w' h => valsOut_any h
    have t1 : ∀ (l : List V), vals 0 0 plainU s.data.toList = some l → tuple l = true ∧ (⟨(writeB l).toArray⟩ : ByteArray) = s := by
      intro l h
      obtain ⟨h1, _, h3⟩ := tup_vals forth0 (.inl rfl) (.inl rfl) _ _ h
      exact ⟨h1, str_eq h3⟩
    have t2 : ∀ (l : List V), vals 1 9223372036854775808 Esc.unesc s.data.toList = some l → tuple l = true ∧ (⟨(keyB l).toArray⟩ : ByteArray) = s := by
      intro l h
      obtain ⟨h1, _, h3⟩ := tup_vals forth1 (.inr rfl) (.inr rfl) _ _ h
      exact ⟨h1, str_eq h3⟩
    generalize vals 0 0 plainU s.data.toList = sp1 at k1 k2 t1
    generalize vals 1 9223372036854775808 Esc.unesc s.data.toList = sp2 at k3 k4 t2
    obtain ⟨l1, hl1⟩ : ∃ l, l = sp1.getD [] := ⟨_, rfl⟩
    obtain ⟨l2, hl2⟩ : ∃ l, l = sp2.getD [] := ⟨_, rfl⟩
    obtain ⟨b1, hb1⟩ : ∃ b, b = sp1.isSome := ⟨_, rfl⟩
    obtain ⟨b2, hb2⟩ : ∃ b, b = sp2.isSome := ⟨_, rfl⟩
    rw [← hl1, ← hb1] at k1 k2
    rw [← hl2, ← hb2] at k3 k4
    have u1 : b1 = true → tuple l1 = true ∧ (⟨(writeB l1).toArray⟩ : ByteArray) = s := by
      intro h
      cases sp1 with
      | none => rw [hb1] at h; cases h
      | some l => rw [hl1]; exact t1 l rfl
    have u2 : b2 = true → tuple l2 = true ∧ (⟨(keyB l2).toArray⟩ : ByteArray) = s := by
      intro h
      cases sp2 with
      | none => rw [hb2] at h; cases h
      | some l => rw [hl2]; exact t2 l rfl
    have n1 : l1.length ≤ 140737488351232 := by
      cases sp1 with
      | none => rw [hl1]; decide
      | some l =>
        have h := (t1 l rfl).1
        unfold tuple at h
        simp only [Bool.and_eq_true, decide_eq_true_eq] at h
        rw [hl1]
        show l.length ≤ _
        omega
    have n2 : l2.length ≤ 140737488351232 := by
      cases sp2 with
      | none => rw [hl2]; decide
      | some l =>
        have h := (t2 l rfl).1
        unfold tuple at h
        simp only [Bool.and_eq_true, decide_eq_true_eq] at h
        rw [hl2]
        show l.length ≤ _
        omega
    have k5 : b1 = true → ∀ w (he : Env w) (o : Option Addr) (c : Nat) (h : Sl w o l1), Calls Tryd.prog 16 #[.slice o l1.length c] w fun e w' => e = .returned (.tuple #[.string s, .bool true]) ∧ Below w.heap.size w w' := by
      intro h w he o c hsl
      have := write_any l1 c o w he hsl n1
      rw [(u1 h).1, if_pos rfl, (u1 h).2] at this
      exact this
    have k6 : b2 = true → ∀ w (he : Env w) (o : Option Addr) (c : Nat) (h : Sl w o l2), Calls Tryd.prog 15 #[.slice o l2.length c] w fun e w' => e = .returned (.tuple #[.string s, .bool true]) ∧ Below w.heap.size w w' := by
      intro h w he o c hsl
      have := key_any l2 c o w he hsl n2
      rw [(u2 h).1, if_pos rfl, (u2 h).2] at this
      exact this
    clear u1 u2 t1 t2 hl1 hl2 hb1 hb2 h5 hs0
    go_enter Tryd.func7, Tryd.ntmps7
    go_wp2_with (fail)
    go_at_call 9
    refine (awake_any w he).mono ?_
    rintro e w1 ⟨rfl, hB1⟩
    have he1 := he.below hB1 he.lt
    go_wp2_with (fail)
    go_at_call 19
    refine (k1 _ he1).mono ?_
    rintro e w2 ⟨o2, c2, rfl, s2, hb2⟩
    have hB2 := hB1.trans (hb2.mono hB1.size)
    have he2 := he1.below hb2 he1.lt
    clear hB1 he he1 hb2 k1
    go_wp2_with (fail)
    go_at_call 22
    refine (k2 _).mono ?_
    rintro e w3 ⟨o3, c3, rfl, s3, hb3⟩
    have hB3 := hB2.trans (hb3.mono hB2.size)
    have he3 := he2.below hb3 he2.lt
    have s23 := s2.below hb3
    clear hB2 he2 hb3 k2 s2
    go_wp2_with (fail)
    go_at_call 20
    refine (k3 _ he3).mono ?_
    rintro e w4 ⟨o4, c4, rfl, s4, hb4⟩
    have hB4 := hB3.trans (hb4.mono hB3.size)
    have he4 := he3.below hb4 he3.lt
    have s24 := s23.below hb4
    have s34 := s3.below hb4
    clear hB3 he3 hb4 k3 s23 s3
    go_wp2_with (fail)
    go_at_call 23
    refine (k4 _).mono ?_
    rintro e w5 ⟨o5, c5, rfl, s5, hb5⟩
    have hB5 := hB4.trans (hb5.mono hB4.size)
    have he5 := he4.below hb5 he4.lt
    have s25 := s24.below hb5
    have s35 := s34.below hb5
    have s45 := s4.below hb5
    clear hB4 he4 hb5 k4 s24 s34 s4
    cases b1
    all_goals cases b2
    all_goals (
      go_wp2_with (fail)
      go_at_call 21
      refine (same_any l1 c2 c3 o2 o3 _ s25 s35 n1).mono ?_
      rintro e w6 ⟨rfl, hb6⟩
      have hB6 := hB5.trans (hb6.mono hB5.size)
      have he6 := he5.below hb6 he5.lt
      have s26 := s25.below hb6
      have s46 := s45.below hb6
      have s56 := s5.below hb6
      clear hB5 he5 hb6 s25 s45 s5 s35
      go_wp2_with (fail)
      go_at_call 21
      refine (same_any l2 c4 c5 o4 o5 _ s46 s56 n2).mono ?_
      rintro e w7 ⟨rfl, hb7⟩
      have hB7 := hB6.trans (hb7.mono hB6.size)
      have he7 := he6.below hb7 he6.lt
      have s27 := s26.below hb7
      have s47 := s46.below hb7
      clear hB6 he6 hb7 s26 s46 s56)
    · go_wp2
      go_ret
      exact ⟨rfl, hB7⟩
    · go_wp2_with (fail)
      go_at_call 15
      refine (k6 (by trivial) _ he7 _ _ s47).mono ?_
      rintro e w8 ⟨rfl, hb8⟩
      have hB8 := hB7.trans (hb8.mono hB7.size)
      go_wp2
      go_ret
      exact ⟨rfl, hB8⟩
    · go_wp2_with (fail)
      go_at_call 16
      refine (k5 (by trivial) _ he7 _ _ s27).mono ?_
      rintro e w8 ⟨rfl, hb8⟩
      have hB8 := hB7.trans (hb8.mono hB7.size)
      go_wp2
      go_ret
      exact ⟨rfl, hB8⟩
    · go_wp2_with (fail)
      go_at_call 16
      refine (k5 (by trivial) _ he7 _ _ s27).mono ?_
      rintro e w8 ⟨rfl, hb8⟩
      have hB8 := hB7.trans (hb8.mono hB7.size)
      have he8 := he7.below hb8 he7.lt
      have s48 := s47.below hb8
      go_wp2_with (fail)
      go_at_call 15
      refine (k6 (by trivial) _ he8 _ _ s48).mono ?_
      rintro e w9 ⟨rfl, hb9⟩
      have hB9 := hB8.trans (hb9.mono hB8.size)
      go_wp2
      go_ret
      exact ⟨rfl, hB9⟩
end Go.Proofs.YtgfjfpghjjknlaaDoor
